/- Lemmas and contracts for the proof of a statement of this seat. -/
import Derived.Test.YtmfjjncfdpejiaaGreatDoorZN5
import Derived.Shelf.Strings.BuilderK
import Derived.Test.YtmfjjncfdpejiaaGreatDoorZF6
import Derived.Shelf.Strconv.Itoa3
import Derived.Test.YtmfjjncfdpejiaaGreatDoorZP2
import Derived.Test.YtmfjjncfdpejiaaGreatDoorZF1
import Derived.Test.YtmfjjncfdpejiaaGreatDoorZCQ
import Derived.Test.YtmfjjncfdpejiaaGreatDoorZN1
import Derived.Test.YtmfjjncfdpejiaaGreatDoorZN4
import Derived.Test.YtmfjjncfdpejiaaGreatDoorZC4
import Derived.WalkKit
import Derived.BigCall
import Derived.Test.YtmfjjncfdpejiaaGreatDoorZN8
import Derived.Test.YtmfjjncfdpejiaaGreatDoorZC7
set_option linter.unusedVariables false
set_option linter.unusedSimpArgs false
namespace Go.Am
open Go Go.Proofs Go.Shelf
def Jih : Ren := ⟨fun k => match k with | 166 => 88 | 167 => 90 | 169 => 92 | 170 => 91 | 240 => 171 | 276 => 241 | k => k, fun k => match k with | 0 => 0 | 3 => 3 | 4 => 4 | 5 => 5 | 9 => 9 | 20 => 20 | 37 => 145 | 70 => 144 | 72 => 147 | 75 => 150 | 80 => 156 | 127 => 246 | 164 => 317 | k => k, fun k => k⟩
set_option maxRecDepth 100000 in
theorem bws : Lays.n166 Tryz.prog Jih where
 mixed := by kernel_rfl
 f166 := (Tryz.func88).trans (by kernel_rfl)
 f240 := (Tryz.func171).trans (by kernel_rfl)
 f276 := (Tryz.func241).trans (by kernel_rfl)
 t0 := by kernel_rfl
 a0 := fun w => by kernel_rfl
 z0 := fun w => by kernel_rfl
 v0 := fun w => by kernel_rfl
 t3 := by kernel_rfl
 a3 := fun w => by kernel_rfl
 z3 := fun w => by kernel_rfl
 v3 := fun w => by kernel_rfl
 t4 := by kernel_rfl
 a4 := fun w => by kernel_rfl
 z4 := fun w => by kernel_rfl
 v4 := fun w => by kernel_rfl
 t9 := by kernel_rfl
 a9 := fun w => by kernel_rfl
 z9 := fun w => by kernel_rfl
 v9 := fun w => by kernel_rfl
 t20 := by kernel_rfl
 a20 := fun w => by kernel_rfl
 z20 := fun w => by kernel_rfl
 v20 := fun w => by kernel_rfl
 t37 := by kernel_rfl
 a37 := fun w => by kernel_rfl
 z37 := fun w => by kernel_rfl
 v37 := fun w => by kernel_rfl
 t70 := by kernel_rfl
 a70 := fun w => by kernel_rfl
 z70 := fun w => by kernel_rfl
 v70 := fun w => by kernel_rfl
 t72 := by kernel_rfl
 a72 := fun w => by kernel_rfl
 z72 := fun w => by kernel_rfl
 v72 := fun w => by kernel_rfl
 t75 := by kernel_rfl
 a75 := fun w => by kernel_rfl
 z75 := fun w => by kernel_rfl
 v75 := fun w => by kernel_rfl
 t164 := by kernel_rfl
 a164 := fun w => by kernel_rfl
 z164 := fun w => by kernel_rfl
 v164 := fun w => by kernel_rfl
set_option maxRecDepth 100000 in
theorem bwb : Lays.n167 Tryz.prog Jih where
 mixed := by kernel_rfl
 f167 := (Tryz.func90).trans (by kernel_rfl)
 f240 := (Tryz.func171).trans (by kernel_rfl)
 f276 := (Tryz.func241).trans (by kernel_rfl)
 t0 := by kernel_rfl
 a0 := fun w => by kernel_rfl
 z0 := fun w => by kernel_rfl
 v0 := fun w => by kernel_rfl
 t4 := by kernel_rfl
 a4 := fun w => by kernel_rfl
 z4 := fun w => by kernel_rfl
 v4 := fun w => by kernel_rfl
 t5 := by kernel_rfl
 a5 := fun w => by kernel_rfl
 z5 := fun w => by kernel_rfl
 v5 := fun w => by kernel_rfl
 t9 := by kernel_rfl
 a9 := fun w => by kernel_rfl
 z9 := fun w => by kernel_rfl
 v9 := fun w => by kernel_rfl
 t20 := by kernel_rfl
 a20 := fun w => by kernel_rfl
 z20 := fun w => by kernel_rfl
 v20 := fun w => by kernel_rfl
 t37 := by kernel_rfl
 a37 := fun w => by kernel_rfl
 z37 := fun w => by kernel_rfl
 v37 := fun w => by kernel_rfl
 t70 := by kernel_rfl
 a70 := fun w => by kernel_rfl
 z70 := fun w => by kernel_rfl
 v70 := fun w => by kernel_rfl
 t72 := by kernel_rfl
 a72 := fun w => by kernel_rfl
 z72 := fun w => by kernel_rfl
 v72 := fun w => by kernel_rfl
 t75 := by kernel_rfl
 a75 := fun w => by kernel_rfl
 z75 := fun w => by kernel_rfl
 v75 := fun w => by kernel_rfl
 t164 := by kernel_rfl
 a164 := fun w => by kernel_rfl
 z164 := fun w => by kernel_rfl
 v164 := fun w => by kernel_rfl
set_option maxRecDepth 100000 in
theorem bst : Lays.n169 Tryz.prog Jih where
 mixed := by kernel_rfl
 f169 := (Tryz.func92).trans (by kernel_rfl)
 t0 := by kernel_rfl
 a0 := fun w => by kernel_rfl
 z0 := fun w => by kernel_rfl
 v0 := fun w => by kernel_rfl
 t3 := by kernel_rfl
 a3 := fun w => by kernel_rfl
 z3 := fun w => by kernel_rfl
 v3 := fun w => by kernel_rfl
 t9 := by kernel_rfl
 a9 := fun w => by kernel_rfl
 z9 := fun w => by kernel_rfl
 v9 := fun w => by kernel_rfl
 t37 := by kernel_rfl
 a37 := fun w => by kernel_rfl
 z37 := fun w => by kernel_rfl
 v37 := fun w => by kernel_rfl
 t70 := by kernel_rfl
 a70 := fun w => by kernel_rfl
 z70 := fun w => by kernel_rfl
 v70 := fun w => by kernel_rfl
 t72 := by kernel_rfl
 a72 := fun w => by kernel_rfl
 z72 := fun w => by kernel_rfl
 v72 := fun w => by kernel_rfl
 t127 := by kernel_rfl
 a127 := fun w => by kernel_rfl
 z127 := fun w => by kernel_rfl
 v127 := fun w => by kernel_rfl
set_option maxRecDepth 100000 in
theorem bln : Lays.n170 Tryz.prog Jih where
 mixed := by kernel_rfl
 f170 := (Tryz.func91).trans (by kernel_rfl)
 t0 := by kernel_rfl
 a0 := fun w => by kernel_rfl
 z0 := fun w => by kernel_rfl
 v0 := fun w => by kernel_rfl
 t3 := by kernel_rfl
 a3 := fun w => by kernel_rfl
 z3 := fun w => by kernel_rfl
 v3 := fun w => by kernel_rfl
 t37 := by kernel_rfl
 a37 := fun w => by kernel_rfl
 z37 := fun w => by kernel_rfl
 v37 := fun w => by kernel_rfl
 t70 := by kernel_rfl
 a70 := fun w => by kernel_rfl
 z70 := fun w => by kernel_rfl
 v70 := fun w => by kernel_rfl
 t72 := by kernel_rfl
 a72 := fun w => by kernel_rfl
 z72 := fun w => by kernel_rfl
 v72 := fun w => by kernel_rfl
theorem bldX : Builder.Extra Tryz.prog Jih where
 sizeBuilder := by kernel_rfl
 liesBuilder := by kernel_rfl
 t5 := by kernel_rfl
 a5 := fun w => by kernel_rfl
 z5 := fun w => by kernel_rfl
 v5 := fun w => by kernel_rfl
 infoByte := by kernel_rfl
 cellsByte := by kernel_rfl
 sizeByte := by kernel_rfl
 neB5 := by decide
end Go.Am
namespace Go.Am
open Go Go.Proofs Go.Shelf Go.RowKit Go.Pn
set_option maxRecDepth 100000 in
theorem J19 : LaysM.n171 Tryz.prog Jsa := { ito5 with
 i0 := by kernel_rfl, i2 := by kernel_rfl, i3 := by kernel_rfl, i4 := by kernel_rfl, i5 := by kernel_rfl, i9 := by kernel_rfl, i20 := by kernel_rfl, i37 := by kernel_rfl, i46 := by kernel_rfl, i51 := by kernel_rfl, i53 := by kernel_rfl, i171 := by kernel_rfl, i173 := by kernel_rfl, i212 := by kernel_rfl, i232 := by kernel_rfl, i233 := by kernel_rfl,
 m17 := by kernel_rfl, m18 := by kernel_rfl, m19 := by kernel_rfl }
def GL5 : Jae := GL ++ [(4, 20, [Lib.pow10Tab.map (PV.int .u64)])]
theorem Jmg : ∀ x ∈ GL, x ∈ GL5 := fun x hx => List.mem_append_left _ hx
theorem J6q {own : Nat -> Prop} {w : World} (hg : Jeq GL5 own w) : Lib.TabIs Tryz.prog w "internal/strconv.uint64pow10" .u64 Lib.pow10Tab := by
 obtain ⟨_, _, hd, arr, T, fz, h1, h2⟩ := hg 4 20 [Lib.pow10Tab.map (PV.int .u64)] (List.mem_append_right _ (by simp))
 have gR : (Tryz.prog).globalNamed "internal/strconv.uint64pow10" = some 4 := by kernel_rfl
 have hs : arr.size = 20 := h2
 unfold Lib.TabIs World.var?
 rw [gR, Option.bind_some, h1]
 simp only [Option.some.injEq]
 apply Array.ext'
 apply List.ext_getElem?
 intro i
 by_cases hi : i < 20
 . have hl : i < Lib.pow10Tab.length := by rw [Lib.pow10Tab_length]; exact hi
   obtain ⟨v, hv, hr⟩ := hd 0 i _ (PV.int .u64 (Lib.pow10Tab[i]'hl)) rfl (by rw [List.getElem?_map, List.getElem?_eq_getElem hl]; rfl)
   cases hr
   rw [Lib.cell_of_heap h1] at hv
   rw [List.getElem?_map, List.getElem?_eq_getElem hl, Option.map_some, <- hv]
   simp
 . rw [List.getElem?_eq_none (by simp [hs]; omega), List.getElem?_eq_none (by simp [Lib.pow10Tab_length]; omega)]
theorem J2c {own : Nat -> Prop} {w : World} (hg : Jeq GL5 own w) (n : Nat) (hn : n <= 1000000) :
   Calls Tryz.prog 89 #[.int .i64 n] w fun e w' => e = .returned (.string ⟨⟨Lib.decDigits n⟩⟩) /\ Below w.heap.size w w' := by
 refine Calls.mono (Any.strconv_Itoa J19 n (by omega) (by omega) w (J6q hg)) ?_
 rintro e w' ⟨rfl, k, os, rfl⟩
 refine ⟨?_, ?_⟩
 . rw [Lib.itoa_nonneg]
 . exact ⟨rfl, rfl, rfl, by show w.heap.size <= (w.heap ++ os).size; rw [Array.size_append]; omega, fun j hj => by
     show (w.heap ++ os)[j]? = _
     exact Array.getElem?_append_left hj⟩
end Go.Am
namespace Go.Am
open Go Go.Proofs Go.Pn
end Go.Am
namespace Go.Am
open Go Go.Proofs Go.Pn
def txtP (c : Circuit) (k : Nat) : Txt := unl ((c.parts.take k).map partT)
def txtX (c : Circuit) (k : Nat) : Txt := unl (c.parts.map partT ++ (c.pipes.take k).map (Jda c))
theorem Jwb {ls : List Txt} {l : Txt} : unl (ls ++ [l]) = unl ls ++ (l ++ [10]) := by simp [unl]
theorem Jv7 {c : Circuit} {k : Nat} {p : Part} (e : c.parts[k]? = some p) : txtP c (k + 1) = txtP c k ++ (partT p ++ [10]) := by
 unfold txtP
 rw [take_snoc e, List.map_append]
 exact Jwb
theorem J60 {c : Circuit} {k : Nat} {x : Pipe} (e : c.pipes[k]? = some x) : txtX c (k + 1) = txtX c k ++ (Jda c x ++ [10]) := by
 unfold txtX
 rw [take_snoc e, List.map_append, <- List.append_assoc]
 exact Jwb
theorem Jpa {c : Circuit} : txtP c c.parts.length = txtX c 0 /\ txtX c c.pipes.length = Jf9 c := by
 unfold txtP txtX
 rw [List.take_length, List.take_length, List.take_zero, List.map_nil, List.append_nil]
 exact ⟨rfl, rfl⟩
theorem J6z {c : Circuit} (h : Jad c = 0) {k : Nat} : (txtP c k).length <= 51 * k := by
 have h1 := Jjh (ls := (c.parts.take k).map partT) (n := 50) (fun l hl => by
   obtain ⟨p, hp, rfl⟩ := List.mem_map.1 hl
   exact Jle (Jcy h (List.mem_of_mem_take hp)))
 rw [List.length_map] at h1
 have h2 := List.length_take_le k c.parts
 unfold txtP
 have : (50 + 1) * (c.parts.take k).length <= 51 * k := Nat.mul_le_mul_left _ h2
 omega
theorem Jv8 {c : Circuit} (h : Jad c = 0) {k : Nat} : (txtX c k).length <= 61 * (c.parts.length + k) := by
 have h1 := Jjh (ls := c.parts.map partT ++ (c.pipes.take k).map (Jda c)) (n := 60) (fun l hl => by
   rcases List.mem_append.1 hl with hl | hl
   . obtain ⟨p, hp, rfl⟩ := List.mem_map.1 hl
     have := Jle (Jcy h hp); omega
   . obtain ⟨x, hx, rfl⟩ := List.mem_map.1 hl
     exact Jt6 h (List.mem_of_mem_take hx))
 rw [List.length_append, List.length_map, List.length_map] at h1
 have h2 := List.length_take_le k c.pipes
 unfold txtX
 have : (60 + 1) * (c.parts.length + (c.pipes.take k).length) <= 61 * (c.parts.length + k) := Nat.mul_le_mul_left _ (by omega)
 omega
end Go.Am
namespace Go.Am
open Go Go.Proofs Go.Pn
end Go.Am
namespace Go.Am
open Go Go.Proofs Go.Shelf Go.RowKit Go.Lib Go.Sort Go.Pn
set_option maxHeartbeats 1000000 in
theorem J2g (i n cp β o : Nat) (sq : Value) (s t : Txt) (hi : i < n) (w : World) (h : w.cell? ⟨β, o + i * 3 + 1, none⟩ = some (.string ⟨⟨t⟩⟩)) :
   Calls Tryz.prog 82 #[.agg #[.slice (some ⟨β, o, none⟩) n cp, sq], .agg #[.int .i64 i, .string ⟨⟨s⟩⟩]] w fun e w' => e = .returned (.agg #[.string ⟨⟨t⟩⟩, .string ⟨⟨s⟩⟩]) /\
     w' = (((w.alloc (Obj.cells #[.slice (some ⟨β, o, none⟩) n cp, sq] 27)).alloc (Obj.cells #[.int .i64 i, .string ⟨⟨s⟩⟩] 55)).alloc (Obj.cells #[.string ⟨⟨t⟩⟩, .string ⟨⟨s⟩⟩] 137)).drew := by
 have hi' : (i : Int) < (n : Int) := by omega
 go_enter Tryz.func82, Tryz.ntmps82
 go_wp2
 have hz : (((w.alloc (Obj.cells #[.slice (some ⟨β, o, none⟩) n cp, sq] 27)).alloc (Obj.cells #[.int .i64 i, .string ⟨⟨s⟩⟩] 55)).alloc (Obj.cells #[Value.string ⟨#[]⟩, Value.string ⟨#[]⟩] 137)).heap[w.heap.size + 1 + 1]? = some (Obj.cells #[Value.string ⟨#[]⟩, Value.string ⟨#[]⟩] 137) := by
   have := @Array.getElem?_push_size _ ((w.heap.push (Obj.cells #[.slice (some ⟨β, o, none⟩) n cp, sq] 27)).push (Obj.cells #[.int .i64 i, .string ⟨⟨s⟩⟩] 55)) (Obj.cells #[Value.string ⟨#[]⟩, Value.string ⟨#[]⟩] 137)
   rw [Array.size_push, Array.size_push] at this
   exact this
 have e1 : (w.alloc (Obj.cells #[.slice (some ⟨β, o, none⟩) n cp, sq] 27)).heap.size = w.heap.size + 1 := Array.size_push _
 have s0 := Jcd _ (Obj.cells #[Value.string ⟨#[]⟩, Value.string ⟨#[]⟩] 137) _ _ (Jcd _ (Obj.cells #[.int .i64 i, .string ⟨⟨s⟩⟩] 55) _ _ (Jdf w #[.slice (some ⟨β, o, none⟩) n cp, sq] 27 0 (.slice (some ⟨β, o, none⟩) n cp) rfl))
 have s1 := Jcd _ (Obj.cells #[Value.string ⟨#[]⟩, Value.string ⟨#[]⟩] 137) _ _ (Jdf (w.alloc (Obj.cells #[.slice (some ⟨β, o, none⟩) n cp, sq] 27)) #[.int .i64 i, .string ⟨⟨s⟩⟩] 55 0 (.int .i64 i) rfl)
 have s2 := Jcd _ (Obj.cells #[Value.string ⟨#[]⟩, Value.string ⟨#[]⟩] 137) _ _ (Jdf (w.alloc (Obj.cells #[.slice (some ⟨β, o, none⟩) n cp, sq] 27)) #[.int .i64 i, .string ⟨⟨s⟩⟩] 55 1 (.string ⟨⟨s⟩⟩) rfl)
 have s3 := Jcd _ (Obj.cells #[Value.string ⟨#[]⟩, Value.string ⟨#[]⟩] 137) _ _ (Jcd _ (Obj.cells #[.int .i64 i, .string ⟨⟨s⟩⟩] 55) _ _ (Jcd _ (Obj.cells #[.slice (some ⟨β, o, none⟩) n cp, sq] 27) _ _ h))
 rw [e1] at s1 s2
 generalize hV : (((w.alloc (Obj.cells #[.slice (some ⟨β, o, none⟩) n cp, sq] 27)).alloc (Obj.cells #[.int .i64 i, .string ⟨⟨s⟩⟩] 55)).alloc (Obj.cells #[Value.string ⟨#[]⟩, Value.string ⟨#[]⟩] 137)) = V at *
 have z0 : V.cell? ⟨w.heap.size + 1 + 1, 0, none⟩ = some (.string ⟨#[]⟩) := by rw [cell_of_heap hz]; rfl
 have z1 : V.cell? ⟨w.heap.size + 1 + 1, 1, none⟩ = some (.string ⟨#[]⟩) := by rw [cell_of_heap hz]; rfl
 have z2 : V.frozen? ⟨w.heap.size + 1 + 1, 0, none⟩ = false := frozen_of_heap hz 0
 have z3 : V.frozen? ⟨w.heap.size + 1 + 1, 1, none⟩ = false := frozen_of_heap hz 1
 have hβ : β < w.heap.size := World.block_lt_of_cell? w _ h
 obtain ⟨k0, k1, k2⟩ : ¬ w.heap.size + 1 + 1 = w.heap.size /\ ¬ w.heap.size + 1 + 1 = w.heap.size + 1 /\ ¬ w.heap.size + 1 + 1 = β := ⟨by omega, by omega, by omega⟩
 obtain ⟨hn, hm⟩ : w.heap.size + 1 + 1 = w.heap.size + 2 /\ True := ⟨rfl, trivial⟩
 have hVs : V.heap.size = w.heap.size + 1 + 1 + 1 := by rw [<- hV, show ∀ (x : World) o, (x.alloc o).heap.size = x.heap.size + 1 from fun x o => Array.size_push _, show ∀ (x : World) o, (x.alloc o).heap.size = x.heap.size + 1 from fun x o => Array.size_push _, show ∀ (x : World) o, (x.alloc o).heap.size = x.heap.size + 1 from fun x o => Array.size_push _]
 have e2 : w.heap.size + 1 + 1 = ((w.alloc (Obj.cells #[.slice (some ⟨β, o, none⟩) n cp, sq] 27)).alloc (Obj.cells #[.int .i64 i, .string ⟨⟨s⟩⟩] 55)).heap.size := by rw [show ∀ (x : World) o, (x.alloc o).heap.size = x.heap.size + 1 from fun x o => Array.size_push _, show ∀ (x : World) o, (x.alloc o).heap.size = x.heap.size + 1 from fun x o => Array.size_push _]
 have hF : ((w.alloc (Obj.cells #[.slice (some ⟨β, o, none⟩) n cp, sq] 27)).alloc (Obj.cells #[.int .i64 i, .string ⟨⟨s⟩⟩] 55)).alloc (Obj.cells #[.string ⟨⟨t⟩⟩, .string ⟨⟨s⟩⟩] 137) = (V.setCell ⟨w.heap.size + 1 + 1, 0, none⟩ (.string ⟨⟨t⟩⟩)).setCell ⟨w.heap.size + 1 + 1, 1, none⟩ (.string ⟨⟨s⟩⟩) := by
   rw [<- hV, World.setCell_alloc_at _ _ _ _ _ e2, World.setCell_alloc_at _ _ _ _ _ e2]
   rfl
 have t0 := Jdf ((w.alloc (Obj.cells #[.slice (some ⟨β, o, none⟩) n cp, sq] 27)).alloc (Obj.cells #[.int .i64 i, .string ⟨⟨s⟩⟩] 55)) #[.string ⟨⟨t⟩⟩, .string ⟨⟨s⟩⟩] 137 0 (.string ⟨⟨t⟩⟩) rfl
 have t1 := Jdf ((w.alloc (Obj.cells #[.slice (some ⟨β, o, none⟩) n cp, sq] 27)).alloc (Obj.cells #[.int .i64 i, .string ⟨⟨s⟩⟩] 55)) #[.string ⟨⟨t⟩⟩, .string ⟨⟨s⟩⟩] 137 1 (.string ⟨⟨s⟩⟩) rfl
 rw [<- e2, hF] at t0 t1
 clear e2
 clear hn hm hβ
 generalize w.heap.size + 1 + 1 = n2 at *
 generalize w.heap.size + 1 = n1 at *
 generalize w.heap.size = n0 at *
 go_region_held3 (fun w' => w'.cell? ⟨n0, 0, none⟩ = some (.slice (some ⟨β, o, none⟩) n cp) /\ w'.cell? ⟨n1, 0, none⟩ = some (.int .i64 i) /\ w'.cell? ⟨n1, 1, none⟩ = some (.string ⟨⟨s⟩⟩) /\ w'.cell? ⟨β, o + i * 3 + 1, none⟩ = some (.string ⟨⟨t⟩⟩))
   (first | exact ⟨s0, s1, s2, s3⟩ | go_keep)
   (fail)
 go_wp2
 try simp only [Exit.inBlock, Exit.then]
 refine bodyPost_ret (v := .agg #[.string ⟨⟨t⟩⟩, .string ⟨⟨s⟩⟩]) ?_ rfl ⟨rfl, by rw [hF]⟩
 have r0 : ((V.setCell ⟨n2, 0, none⟩ (.string ⟨⟨t⟩⟩)).setCell ⟨n2, 1, none⟩ (.string ⟨⟨s⟩⟩)).drew.cell? ⟨n2, 0, none⟩ = some (.string ⟨⟨t⟩⟩) := t0
 have r1 : ((V.setCell ⟨n2, 0, none⟩ (.string ⟨⟨t⟩⟩)).setCell ⟨n2, 1, none⟩ (.string ⟨⟨s⟩⟩)).drew.cell? ⟨n2, 1, none⟩ = some (.string ⟨⟨s⟩⟩) := t1
 generalize ((V.setCell ⟨n2, 0, none⟩ (.string ⟨⟨t⟩⟩)).setCell ⟨n2, 1, none⟩ (.string ⟨⟨s⟩⟩)).drew = V2 at r0 r1 ⊢
 clear hF t0 t1
 simp [results, Tryz.f82, go_sem, r0, r1]
end Go.Am
namespace Go.Am
open Go Go.Proofs Go.Shelf Go.RowKit Go.Lib Go.Sort Go.Pn
theorem Pure.kit {P : Program} {G : Jae} {f : Nat} {fn : Func} {c : Code} {args : List AV} {r : AV} (h : Pure P G f args r) (hf : P.funcs[f]? = some fn) (hname : (fn.name == "runtime.NumGoroutine") = false) (hb : fn.body = some c)
   {own : Nat -> Prop} {w : World} {vs : List Value} (hg : Jeq G own w) (hs : ∀ β, own β -> β < w.heap.size) (hl : vs.length = args.length) (hv : ∀ (i : Nat) x v, args[i]? = some x -> vs[i]? = some v -> VR (fun _ => none) own w x v) :
   Calls P f ⟨vs⟩ w fun e w' => ∃ u, e = .returned u /\ VR (fun _ => none) own w' r u /\ Below w.heap.size w w' := by
 have h1 := h.run own w vs hg hs hl hv
 rw [enters_of hf hname hb ⟨vs⟩ w] at h1
 refine Calls.mono h1 ?_
 rintro e w' ⟨u, rfl, h2, h3, h4⟩
 exact ⟨u, rfl, h2, h4.os, h4.tape, h4.output, h4.size, h3⟩
theorem Jig {T e : TypeId} {B b : Nat} {bs : List Value} {w w' : World} (h : IsBuilderF T e B b bs w) (hk : Below w.heap.size w w') : IsBuilderF T e B b bs w' := by
 have key : ∀ p, BuilderAtF T e B b p bs w -> BuilderAtF T e B b p bs w' := fun p ⟨h1, v, h2, h3, h4⟩ => by
   refine ⟨h1, v, ?_, ⟨h3.1, ?_⟩, h4⟩
   . rw [hk.block b (Array.getElem?_eq_some_iff.1 h2).1]; exact h2
   . rcases h3.2 with hn | ⟨g, cap, cur, fz, hv, hb, hg, rest⟩
     . exact .inl hn
     . exact .inr ⟨g, cap, cur, fz, hv, hb, by rw [hk.block g (Array.getElem?_eq_some_iff.1 hg).1]; exact hg, rest⟩
 exact h.imp (key _) (key _)
structure CEnv (own : Nat -> Prop) (c : Circuit) (sp sq : Value) (w : World) : Prop where
 glob : Jeq GL5 own w
 size : ∀ β, own β -> β < w.heap.size
 parts : VR (fun _ => none) own w (.p (.lst 3 (c.parts.map Part.enc))) sp
 pipes : VR (fun _ => none) own w (.p (.lst 4 (c.pipes.map Pipe.enc))) sq
theorem CEnv.keep {own : Nat -> Prop} {c : Circuit} {sp sq : Value} {w w' : World} (h : CEnv own c sp sq w) (hb : Below w.heap.size w w') : CEnv own c sp sq w' := by
 have st := Jvr (own := own) hb
 refine ⟨fun g k rows hm => ?_, fun β hβ => Nat.lt_of_lt_of_le (h.size β hβ) hb.size, h.parts.mono (fun _ _ e => e) st, h.pipes.mono (fun _ _ e => e) st⟩
 obtain ⟨h1, h2, h3⟩ := h.glob g k rows hm
 exact ⟨Nat.lt_of_lt_of_le h1 hb.size, h2, h3.mono st h1 h2⟩
section
variable {own : Nat -> Prop} {c : Circuit} {sp sq : Value} {w : World}
theorem CEnv.agg (E : CEnv own c sp sq w) : VR (fun _ => none) own w c.av (.agg #[sp, sq]) := .agg _ [sp, sq] rfl fun i x v hx hv => by
 match i with
 | 0 => cases hx; cases hv; exact E.parts
 | 1 => cases hx; cases hv; exact E.pipes
 | i + 2 => cases hx
theorem CEnv.gl (E : CEnv own c sp sq w) : Jeq GL own w := fun g k rows hm => E.glob g k rows (Jmg _ hm)
theorem CEnv.check (E : CEnv own c sp sq w) (hs : Sized c) : Calls Tryz.prog 71 #[.agg #[sp, sq]] w fun e w' => e = .returned (.int .i64 (Jad c)) /\ Below w.heap.size w w' := by
 refine Calls.mono ((Jeu c hs).kit Tryz.func71 rfl rfl (vs := [.agg #[sp, sq]]) E.gl E.size rfl fun i x v hx hv => ?_) ?_
 . match i with
   | 0 => cases hx; cases hv; exact E.agg
   | i + 1 => cases hx
 . rintro e w' ⟨u, rfl, h1, h2⟩
   rw [h1.int_inv]; exact ⟨rfl, h2⟩
theorem CEnv.word (E : CEnv own c sp sq w) (k : Int) : Calls Tryz.prog 87 #[.int .i64 k] w fun e w' => e = .returned (.tuple #[.string ⟨⟨if Jbf k = 0 then Jbl k.toNat else []⟩⟩, .int .i64 (Jbf k)]) /\ Below w.heap.size w w' := by
 refine Calls.mono ((Jyv k).kit Tryz.func87 rfl rfl (vs := [.int .i64 k]) E.gl E.size rfl fun i x v hx hv => ?_) ?_
 . match i with
   | 0 => cases hx; cases hv; exact .p _ _ (.int ..)
   | i + 1 => cases hx
 . rintro e w' ⟨u, rfl, h1, h2⟩
   obtain ⟨us, rfl, h3, h4⟩ := h1.tup_inv
   match us, h3 with
   | [a, b], _ =>
     have ea := (h4 0 _ a rfl rfl).str_inv
     have eb := (h4 1 _ b rfl rfl).int_inv
     rw [ea, eb]; exact ⟨rfl, h2⟩
theorem CEnv.itoa (E : CEnv own c sp sq w) (n : Nat) (hn : n <= 1000000) : Calls Tryz.prog 89 #[.int .i64 n] w fun e w' => e = .returned (.string ⟨⟨Lib.decDigits n⟩⟩) /\ Below w.heap.size w w' := J2c E.glob n hn
end
theorem Jnz {own : Nat -> Prop} {w : World} {k : Nat} {rows : List (List PV)} {v : Value} (h : VR (fun _ => none) own w (.p (.lst k rows)) v) : ∃ a cap, v = .slice a rows.length cap /\ rows.length <= cap /\
   ∀ (i : Nat) row, rows[i]? = some row -> ∃ β o, a = some ⟨β, o, none⟩ /\ β < w.heap.size /\ ∀ (j : Nat) x, row[j]? = some x -> ∃ u, w.cell? ⟨β, o + i * k + j, none⟩ = some u /\ VRp own w x u := by
 rcases h.p_inv.lst_inv with ⟨hn, a, cap, rfl⟩ | ⟨β, o, cap, rfl, hcap, hβ, hown, hr⟩
 . subst hn
   exact ⟨a, cap, rfl, Nat.zero_le _, fun i row h => by simp at h⟩
 . exact ⟨_, cap, rfl, hcap, fun i row hrow => ⟨β, o, rfl, hβ, fun j x hx => hr i j row x hrow hx⟩⟩
theorem J4x {own : Nat -> Prop} {c : Circuit} {sp : Value} {w : World} (h : VR (fun _ => none) own w (.p (.lst 3 (c.parts.map Part.enc))) sp) : ∃ a cap, sp = .slice a c.parts.length cap /\ c.parts.length <= cap /\
   ∀ (i : Nat) p, c.parts[i]? = some p -> ∃ β o, a = some ⟨β, o, none⟩ /\ β < w.heap.size /\ w.cell? ⟨β, o + i * 3, none⟩ = some (.int .i64 p.kind) /\ w.cell? ⟨β, o + i * 3 + 1, none⟩ = some (.string ⟨⟨p.name⟩⟩) /\ w.cell? ⟨β, o + i * 3 + 2, none⟩ = some (.int .i64 p.delay) := by
 obtain ⟨a, cap, h1, h2, h3⟩ := Jnz h
 rw [List.length_map] at h1 h2
 refine ⟨a, cap, h1, h2, fun i p hp => ?_⟩
 obtain ⟨β, o, e1, e2, e3⟩ := h3 i p.enc (by rw [List.getElem?_map, hp]; rfl)
 obtain ⟨u0, c0, d0⟩ := e3 0 _ rfl
 obtain ⟨u1, c1, d1⟩ := e3 1 _ rfl
 obtain ⟨u2, c2, d2⟩ := e3 2 _ rfl
 cases d0; cases d1; cases d2
 exact ⟨β, o, e1, e2, c0, c1, c2⟩
theorem J5a {own : Nat -> Prop} {c : Circuit} {sq : Value} {w : World} (h : VR (fun _ => none) own w (.p (.lst 4 (c.pipes.map Pipe.enc))) sq) : ∃ a cap, sq = .slice a c.pipes.length cap /\ c.pipes.length <= cap /\
   ∀ (i : Nat) x, c.pipes[i]? = some x -> ∃ β o, a = some ⟨β, o, none⟩ /\ β < w.heap.size /\ w.cell? ⟨β, o + i * 4, none⟩ = some (.int .i64 x.fr.part) /\ w.cell? ⟨β, o + i * 4 + 1, none⟩ = some (.string ⟨⟨x.fr.name⟩⟩) /\ w.cell? ⟨β, o + i * 4 + 2, none⟩ = some (.int .i64 x.to.part) /\ w.cell? ⟨β, o + i * 4 + 3, none⟩ = some (.string ⟨⟨x.to.name⟩⟩) := by
 obtain ⟨a, cap, h1, h2, h3⟩ := Jnz h
 rw [List.length_map] at h1 h2
 refine ⟨a, cap, h1, h2, fun i x hx => ?_⟩
 obtain ⟨β, o, e1, e2, e3⟩ := h3 i x.enc (by rw [List.getElem?_map, hx]; rfl)
 obtain ⟨u0, c0, d0⟩ := e3 0 _ rfl
 obtain ⟨u1, c1, d1⟩ := e3 1 _ rfl
 obtain ⟨u2, c2, d2⟩ := e3 2 _ rfl
 obtain ⟨u3, c3, d3⟩ := e3 3 _ rfl
 cases d0; cases d1; cases d2; cases d3
 exact ⟨β, o, e1, e2, c0, c1, c2, c3⟩
end Go.Am
namespace Go.Am
open Go Go.Proofs Go.Shelf Go.RowKit Go.Lib Go.Sort Go.Pn
theorem cell_below {B : Nat} {w w' : World} (h : Below B w w') {a : Addr} {v : Value} (ha : a.block < B) (hc : w.cell? a = some v) : w'.cell? a = some v :=
 (cell_of_block (h.block _ ha)).trans hc
theorem Jg0 {B : Nat} {w a c : World} (h : Below B w a) (k : Below a.heap.size a c) (hB : B <= a.heap.size := by omega) : Below B w c :=
 h.trans ⟨k.os, k.tape, k.output, k.size, fun i hi => k.block i (by omega)⟩
theorem Jxs {w w' : World} (h : Below w.heap.size w w') {k : Nat} {o : Obj} (e : w.heap[k]? = some o) : w'.heap[k]? = some o :=
 (h.block k (Array.getElem?_eq_some_iff.1 e).1).trans e
theorem Jj0 {b : Nat} {l : List UInt8} {s : ByteArray} {W : World} (h : BuilderAtF 147 5 b b (.pointer (some ⟨b, 0, none⟩)) (byteCells l ++ strCells s) W) {r : List UInt8} (e : l ++ s.data.toList = r) : IsBuilderF 147 5 b b (byteCells r) W :=
 .inr (by rw [<- e, Lib.byteCells_append]; exact h)
theorem Jp6 {b : Nat} {l : List UInt8} {W : World} (h : BuilderAtF 147 5 b b (.pointer (some ⟨b, 0, none⟩)) (byteCells l ++ [.int .u8 10]) W) : IsBuilderF 147 5 b b (byteCells (l ++ [10])) W :=
 .inr (by rw [Lib.byteCells_append]; exact h)
theorem size_alloc (x : World) (o : Obj) : (x.alloc o).heap.size = x.heap.size + 1 := Array.size_push _
theorem size_drew (x : World) : x.drew.heap.size = x.heap.size := rfl
theorem size_setCell (x : World) (a : Addr) (v : Value) : (x.setCell a v).heap.size = x.heap.size := by unfold World.setCell; exact Array.size_modify
theorem J4y {c : Circuit} (hs : Sized c) (h : Jad c = 0) {i : Nat} {p : Part} (e : c.parts[i]? = some p) : p.name.length <= 24 /\ (Jbl p.kind.toNat).length <= 8 /\ (txtP c i).length <= 51 * i /\ i < 1000 /\ (partT p).length <= 50 /\ (p.kind = 12 -> 1 <= p.delay /\ p.delay <= 1000000 /\ (Lib.decDigits p.delay.toNat).length <= 20) := by
 have hp := Jcy h (List.mem_of_getElem? e)
 obtain ⟨h1, h2, h3, h4⟩ := Jc7 hp
 have hl := (gsI.1 e).1
 have h5 := (Jeh.1 h).1.few
 refine ⟨(Jen h2).2.2, (Jjp (k := p.kind.toNat) (by omega)).2.2.2, J6z h, by omega, Jle hp, fun h6 => ?_⟩
 obtain ⟨a, b⟩ := h3 h6
 exact ⟨a, b, Nat.le_trans (Jkb (k := 6) (by omega)) (by decide)⟩
theorem J5e {c : Circuit} {x : Pipe} {i1 i2 : Nat} {q1 q2 : Part} (g1 : x.fr.part = i1) (g2 : c.parts[i1]? = some q1) (k1 : x.to.part = i2) (k2 : c.parts[i2]? = some q2) :
   Jda c x = Jf7 ++ q1.name ++ [46] ++ x.fr.name ++ [32] ++ q2.name ++ [46] ++ x.to.name := by
 have e1 : nameAt c x.fr.part = q1.name := by rw [g1]; exact Js2 g2
 have e2 : nameAt c x.to.part = q2.name := by rw [k1]; exact Js2 k2
 simp [Jda, endX, Jak, e1, e2]
theorem J5b {c : Circuit} (h : Jad c = 0) {x : Pipe} (hx : x ∈ c.pipes) {q1 q2 : Part} (g2 : q1 ∈ c.parts) (k2 : q2 ∈ c.parts) (g3 : x.fr.name ∈ Jbg q1) (k3 : x.to.name ∈ Jbg q2) (j : Nat) :
   q1.name.length <= 24 /\ x.fr.name.length <= 2 /\ q2.name.length <= 24 /\ x.to.name.length <= 2 /\ (txtX c j).length <= 61 * (64 + j) := by
 obtain ⟨a1, a2, _⟩ := Jc7 (Jcy h g2)
 obtain ⟨b1, b2, _⟩ := Jc7 (Jcy h k2)
 have h5 := (Jeh.1 h).1.few
 have := Jv8 h (k := j)
 exact ⟨(Jen a2).2.2, (Ji1 a1 g3).2.2, (Jen b2).2.2, (Ji1 b1 k3).2.2, by omega⟩
theorem cell_of {w : World} {k : Nat} {arr : Array Value} {T : TypeId} {fz : Nat × Nat} (h : w.heap[k]? = some (.cells arr T fz)) (i : Nat) {v : Value} (e : arr[i]? = some v) : w.cell? ⟨k, i, none⟩ = some v := by
 rw [cell_of_heap h]; exact e
set_option maxHeartbeats 4000000 in
set_option maxRecDepth 100000 in
theorem J2b (c : Circuit) (hs : Sized c) (own : Nat -> Prop) (w : World) (sp sq : Value) (E : CEnv own c sp sq w) :
   Calls Tryz.prog 23 #[.agg #[sp, sq]] w fun e w' => e = .returned (.tuple #[.string ⟨⟨fmtC c⟩⟩, .int .i64 (Jc5 c)]) /\ Below w.heap.size w w' := by
 obtain ⟨ap, cp, rfl, hcp, hP⟩ := J4x E.parts
 obtain ⟨aq, cq, rfl, hcq, hQ⟩ := J5a E.pipes
 have hck := fun W (h : Below w.heap.size w W) => (E.keep h).check hs
 go_enter Tryz.func23, Tryz.ntmps23
 go_wp2_with (go_at_call 71; refine (hck _ ((Below.refl _ w).alloc (Nat.le_refl _) _)).mono ?_)
 rintro e w1 ⟨rfl, hb1⟩
 by_cases h : Jad c = 0
 . rw [h]
   have hsz1 : w.heap.size + 1 <= w1.heap.size := by have := hb1.size; rw [show (w.alloc (Obj.cells #[Value.slice ap c.parts.length cp, Value.slice aq c.pipes.length cq] 27)).heap.size = w.heap.size + 1 from Array.size_push _] at this; exact this
   have hbx : w1.heap[w.heap.size]? = some (Obj.cells #[Value.slice ap c.parts.length cp, Value.slice aq c.pipes.length cq] 27) := by
     rw [hb1.block _ (by rw [show (w.alloc (Obj.cells #[Value.slice ap c.parts.length cp, Value.slice aq c.pipes.length cq] 27)).heap.size = w.heap.size + 1 from Array.size_push _]; omega)]
     exact Array.getElem?_push_size
   have hbw : Below w.heap.size w w1 := ((Below.refl _ w).alloc (Nat.le_refl _) _).trans ⟨hb1.os, hb1.tape, hb1.output, hb1.size, fun k hk => hb1.block k (by rw [show (w.alloc (Obj.cells #[Value.slice ap c.parts.length cp, Value.slice aq c.pipes.length cq] 27)).heap.size = w.heap.size + 1 from Array.size_push _]; omega)⟩
   clear hb1
   have x0 : w1.cell? ⟨w.heap.size, 0, none⟩ = some (.slice ap c.parts.length cp) := by rw [cell_of_heap hbx]; rfl
   have x1 : w1.cell? ⟨w.heap.size, 1, none⟩ = some (.slice aq c.pipes.length cq) := by rw [cell_of_heap hbx]; rfl
   have y0 := Jcd w1 (Obj.cells #[Value.pointer none, Value.slice none 0 0] 147) _ _ x0
   have y1 := Jcd w1 (Obj.cells #[Value.pointer none, Value.slice none 0 0] 147) _ _ x1
   have hbl : IsBuilderF 147 5 w1.heap.size w1.heap.size (byteCells []) (w1.alloc (Obj.cells #[Value.pointer none, Value.slice none 0 0] 147)) := IsBuilderF.of (fresh_isBuilder 147 5 w1)
   have hbW : Below w1.heap.size w1 (w1.alloc (Obj.cells #[Value.pointer none, Value.slice none 0 0] 147)) := (Below.refl _ w1).alloc (Nat.le_refl _) _
   have hsW : w1.heap.size + 1 <= (w1.alloc (Obj.cells #[Value.pointer none, Value.slice none 0 0] 147)).heap.size := Nat.le_of_eq (Array.size_push _).symm
   go_wp2
   generalize w1.alloc (Obj.cells #[Value.pointer none, Value.slice none 0 0] 147) = W2 at y0 y1 hbl hbW hsW ⊢
   have hbb : Below w.heap.size w W2 := hbw.trans ⟨hbW.os, hbW.tape, hbW.output, hbW.size, fun k hk => hbW.block k (by omega)⟩
   generalize w1.heap.size = b at hsz1 hbl hbW hsW ⊢
   have hkeep : ∀ (wx : World), Below b W2 wx -> Below w.heap.size w wx := fun wx hB => hbb.trans ⟨hB.os, hB.tape, hB.output, hB.size, fun k hk => hB.block k (by omega)⟩
   go_loopg [22] c.parts.length (fun g v22 wx => ∃ i : Nat, i + g = c.parts.length /\ v22 = .int .i64 i /\ IsBuilderF 147 5 b b (byteCells (txtP c i)) wx /\ Below b W2 wx)
   case atStart => exact ⟨0, by omega, rfl, hbl, Below.refl _ _⟩
   case round =>
     obtain ⟨i, hi, rfl, hI, hB⟩ := hrel
     have hbr := hkeep wr hB
     have Er := E.keep hbr
     have z0 := cell_below hB (a := ⟨w.heap.size, 0, none⟩) (by show w.heap.size < b; omega) y0
     have z1 := cell_below hB (a := ⟨w.heap.size, 1, none⟩) (by show w.heap.size < b; omega) y1
     by_cases hlt : i < c.parts.length
     . obtain ⟨p, e⟩ := Jah hlt
       obtain ⟨β, o, rfl, hβ, c0, c1, c2⟩ := hP i p e
       have d0 := cell_below hbr hβ c0
       have d1 := cell_below hbr hβ c1
       have d2 := cell_below hbr hβ c2
       have hlt' : (i : Int) < (c.parts.length : Int) := by omega
       have hs0 : W2.heap.size <= wr.heap.size := hB.size
       have hs1 : w.heap.size <= wr.heap.size := hbr.size
       obtain ⟨n1, n2, n3, n4, n5, n6⟩ := J4y hs h e
       have hk := Jfd.2 (Jc7 (Jcy h (List.mem_of_getElem? e))).1
       have hA : Below wr.heap.size wr (wr.alloc (Obj.cells #[Value.int .i64 p.kind, Value.string ⟨⟨p.name⟩⟩, Value.int .i64 p.delay] 72)) := (Below.refl _ wr).alloc (Nat.le_refl _) _
       have hIA := Jig hI hA
       have hsB : wr.heap.size <= (wr.alloc (Obj.cells #[Value.int .i64 p.kind, Value.string ⟨⟨p.name⟩⟩, Value.int .i64 p.delay] 72)).heap.size := hA.size
       have hbA := Jg0 hbr hA
       have hBA := Jg0 hB hA
       have pA : (wr.alloc (Obj.cells #[Value.int .i64 p.kind, Value.string ⟨⟨p.name⟩⟩, Value.int .i64 p.delay] 72)).heap[wr.heap.size]? = some (Obj.cells #[Value.int .i64 p.kind, Value.string ⟨⟨p.name⟩⟩, Value.int .i64 p.delay] 72) := Array.getElem?_push_size
       have hword := (E.keep hbA).word p.kind
       rw [hk, if_pos rfl] at hword
       go_wp2_with (go_at_call 87; refine hword.mono ?_)
       rintro e1 W1 ⟨rfl, hW⟩
       have hsA : wr.heap.size + 1 <= W1.heap.size := by
         have := hW.size
         rw [show (wr.alloc (Obj.cells #[Value.int .i64 p.kind, Value.string ⟨⟨p.name⟩⟩, Value.int .i64 p.delay] 72)).heap.size = wr.heap.size + 1 from Array.size_push _] at this
         exact this
       have hI1 := Jig hIA hW
       have hb1 := Jg0 hbA hW
       have hB1 := Jg0 hBA hW
       have p1 := Jxs hW pA
       generalize wr.alloc (Obj.cells #[Value.int .i64 p.kind, Value.string ⟨⟨p.name⟩⟩, Value.int .i64 p.delay] 72) = WA at *
       have q0 := cell_of p1 0 rfl
       have q1 := cell_of p1 1 rfl
       have q2 := cell_of p1 2 rfl
       have f1 : ¬ 9223372036854775807 < 5 + List.length p.name := by omega
       have f2 : ¬ 9223372036854775807 < 5 + List.length p.name + 1 := by omega
       have f3 : ¬ 9223372036854775807 < 5 + List.length p.name + 1 + List.length (Jbl p.kind.toNat) := by omega
       by_cases hkb : (p.kind == 12) = true
       . go_wp2_with (go_at_call 88; refine (Any.Builder_WriteString_k bws bldX b b _ _ _ hI1 ?hl ?hz).mono ?_)
         case hl => rw [Lib.byteCells_length]; simp [Jfq, Jgd]; omega
         case hz => omega
         obtain ⟨m1, m2, m3⟩ := n6 (by simpa using hkb)
         rintro e2 W3 ⟨rfl, hI3, hB3, hK3⟩
         have p3 := hK3 _ _ p1 (by simp; omega) (by intro c fz h; cases h)
         have q3 := cell_of p3 0 rfl
         have q3d := cell_of p3 2 rfl
         have hI4 := Jj0 hI3 (r := txtP c i ++ (Jd0 ++ p.name ++ [32] ++ Jbl p.kind.toNat)) (by simp [Jfq, Jd0])
         have hs3 := hB3.size
         have hd1 : ((p.delay.toNat : Nat) : Int) = p.delay := Int.toNat_of_nonneg (by have := n6 (by simpa using hkb); omega)
         have hbl3 : Below w.heap.size w W3 := (hb1.trans (hB3.mono (by omega)))
         have hito := (E.keep hbl3).itoa p.delay.toNat (by have := n6 (by simpa using hkb); omega)
         rw [hd1] at hito
         have f4 : ¬ 9223372036854775807 < 1 + List.length (Lib.decDigits p.delay.toNat) := by have := n6 (by simpa using hkb); omega
         go_wp2_with (go_at_call 89; refine hito.mono ?_)
         rintro e3 W4 ⟨rfl, hW4⟩
         have hI5 := Jig hI4 hW4
         have hs4 := hW4.size
         have hB4 : Below b W3 W4 := hW4.mono (by omega)
         go_wp2_with (go_at_call 88; refine (Any.Builder_WriteString_k bws bldX b b _ _ _ hI5 ?hl ?hz).mono ?_)
         case hl => rw [Lib.byteCells_length]; simp [Jfq, Jgd, Jd0]; omega
         case hz => omega
         rintro e4 W5 ⟨rfl, hI6, hB5, hK5⟩
         have hI7 := Jj0 hI6 (r := txtP c i ++ partT p) (by simp [Jfq, partT, show p.kind = 12 by simpa using hkb])
         have hs5 := hB5.size
         go_wp2_with (go_at_call 90; refine (Any.Builder_WriteByte_k bwb bldX b b _ 10 _ hI7 ?hl ?hz).mono ?_)
         case hl => rw [Lib.byteCells_length, List.length_append]; omega
         case hz => omega
         rintro e5 W6 ⟨rfl, hI8, hB6, hK6⟩
         go_wp2
         go_roundg (gk - 1)
         case measure => omega
         case rel =>
           refine ⟨i + 1, by omega, by simp, ?_, (((hB1.trans hB3).trans hB4).trans hB5).trans hB6⟩
           rw [Jv7 e, <- List.append_assoc]
           exact Jp6 hI8
       . have h12' : (p.kind == 12) = false := by simpa using hkb
         go_wp2_with (go_at_call 88; refine (Any.Builder_WriteString_k bws bldX b b _ _ _ hI1 ?hl ?hz).mono ?_)
         case hl => rw [Lib.byteCells_length]; simp [Jfq, Jgd]; omega
         case hz => omega
         rintro e2 W3 ⟨rfl, hI3, hB3, hK3⟩
         have p3 := hK3 _ _ p1 (by simp; omega) (by intro c fz h; cases h)
         have q3 := cell_of p3 0 rfl
         have hI4 := Jj0 hI3 (r := txtP c i ++ partT p) (by simp [Jfq, partT, Jd0, show ¬ p.kind = 12 by simpa using hkb])
         have hs3 := hB3.size
         go_wp2_with (go_at_call 90; refine (Any.Builder_WriteByte_k bwb bldX b b _ 10 _ hI4 ?hl ?hz).mono ?_)
         case hl => rw [Lib.byteCells_length, List.length_append]; omega
         case hz => omega
         rintro e3 W4 ⟨rfl, hI5, hB5, hK5⟩
         go_wp2
         go_roundg (gk - 1)
         case measure => omega
         case rel =>
           refine ⟨i + 1, by omega, by simp, ?_, (hB1.trans hB3).trans hB5⟩
           rw [Jv7 e, <- List.append_assoc]
           exact Jp6 hI5
     . have hlt' : ¬ (i : Int) < (c.parts.length : Int) := by omega
       have hin : i = c.parts.length := by omega
       subst hin
       have hI' : IsBuilderF 147 5 b b (byteCells (txtX c 0)) wr := by rw [<- Jpa.1]; exact hI
       clear hI
       go_wp2
       go_loopg [55] c.pipes.length (fun g v55 wx => ∃ i : Nat, i + g = c.pipes.length /\ v55 = .int .i64 i /\ IsBuilderF 147 5 b b (byteCells (txtX c i)) wx /\ Below b W2 wx)
       case atStart => exact ⟨0, by omega, rfl, hI', hB⟩
       case round =>
         obtain ⟨j, hj, rfl, hJ, hB⟩ := hrel
         have hbr := hkeep wr hB
         have hs0 : W2.heap.size <= wr.heap.size := hB.size
         have z0 := cell_below hB (a := ⟨w.heap.size, 0, none⟩) (by show w.heap.size < b; omega) y0
         have z1 := cell_below hB (a := ⟨w.heap.size, 1, none⟩) (by show w.heap.size < b; omega) y1
         by_cases hlt2 : j < c.pipes.length
         . obtain ⟨x, e⟩ := Jah hlt2
           obtain ⟨β, o, rfl, hβ, c0, c1, c2, c3⟩ := hQ j x e
           obtain ⟨hA, hC⟩ := J5c h (List.mem_of_getElem? e)
           obtain ⟨i1, q1, g1, g2, g3⟩ := Jud hA
           obtain ⟨i2, q2, k1, k2, k3⟩ := Jud hC
           obtain ⟨β2, o2, rfl, hβ2, _, m1, _⟩ := hP i1 q1 g2
           obtain ⟨_, _, e7, _, _, m2, _⟩ := hP i2 q2 k2
           cases e7
           have hstep := J60 e
           rw [J5e g1 g2 k1 k2] at hstep
           obtain ⟨n1, n2, n3, n4, n5⟩ := J5b h (List.mem_of_getElem? e) (List.mem_of_getElem? g2) (List.mem_of_getElem? k2) g3 k3 j
           have hpq := (Jeh.1 h).2.1
           have hi1 : i1 < c.parts.length := (gsI.1 g2).1
           have hi2 : i2 < c.parts.length := (gsI.1 k2).1
           rw [g1] at c0
           rw [k1] at c2
           have d0 := cell_below hbr hβ c0
           have d1 := cell_below hbr hβ c1
           have d2 := cell_below hbr hβ c2
           have d3 := cell_below hbr hβ c3
           have u1 := cell_below hbr hβ2 m1
           have u2 := cell_below hbr hβ2 m2
           clear c0 c1 c2 c3 m1 m2
           have hlt' : (j : Int) < (c.pipes.length : Int) := by omega
           have hA : Below wr.heap.size wr (wr.alloc (Obj.cells #[Value.int .i64 i1, Value.string ⟨⟨x.fr.name⟩⟩, Value.int .i64 i2, Value.string ⟨⟨x.to.name⟩⟩] 67)) := (Below.refl _ wr).alloc (Nat.le_refl _) _
           have pA : (wr.alloc (Obj.cells #[Value.int .i64 i1, Value.string ⟨⟨x.fr.name⟩⟩, Value.int .i64 i2, Value.string ⟨⟨x.to.name⟩⟩] 67)).heap[wr.heap.size]? = some (Obj.cells #[Value.int .i64 i1, Value.string ⟨⟨x.fr.name⟩⟩, Value.int .i64 i2, Value.string ⟨⟨x.to.name⟩⟩] 67) := Array.getElem?_push_size
           have hsA := size_alloc wr (Obj.cells #[Value.int .i64 i1, Value.string ⟨⟨x.fr.name⟩⟩, Value.int .i64 i2, Value.string ⟨⟨x.to.name⟩⟩] 67)
           have hIA := Jig hJ hA
           have hBA := Jg0 hB hA
           have z0A := cell_below hA (World.block_lt_of_cell? _ _ z0) z0
           have z1A := cell_below hA (World.block_lt_of_cell? _ _ z1) z1
           have u1A := cell_below hA (World.block_lt_of_cell? _ _ u1) u1
           have u2A := cell_below hA (World.block_lt_of_cell? _ _ u2) u2
           go_wp2
           generalize wr.alloc (Obj.cells #[Value.int .i64 i1, Value.string ⟨⟨x.fr.name⟩⟩, Value.int .i64 i2, Value.string ⟨⟨x.to.name⟩⟩] 67) = WA at *
           have v0 := cell_of pA 0 (v := Value.int .i64 i1) rfl
           have v1 := cell_of pA 1 (v := Value.string ⟨⟨x.fr.name⟩⟩) rfl
           have v2 := cell_of pA 2 (v := Value.int .i64 i2) rfl
           have v3 := cell_of pA 3 (v := Value.string ⟨⟨x.to.name⟩⟩) rfl
           have hws : ∀ (V : World) (s : ByteArray), Below WA.heap.size WA V -> s.size <= 200 -> Calls Tryz.prog 88 #[.pointer (some ⟨b, 0, none⟩), .string s] V fun e w' => e = .returned (.tuple #[.int .i64 s.size, .nilIface]) /\ IsBuilderF 147 5 b b (byteCells (txtX c j ++ s.data.toList)) w' /\ Below b W2 w' := fun V s hV hs => by
             have hsV := hV.size
             refine (Any.Builder_WriteString_k bws bldX b b _ s V (Jig hIA hV) ?_ ?_).mono ?_
             . rw [Lib.byteCells_length]; omega
             . omega
             . rintro e w' ⟨rfl, hI4, hB4, _⟩
               exact ⟨rfl, Jj0 hI4 rfl, (hBA.trans (hV.mono (by omega))).trans hB4⟩
           have l1 : ¬ 9223372036854775807 < 5 + List.length q1.name := by omega
           have l2 : ¬ 9223372036854775807 < 5 + List.length q1.name + 1 := by omega
           have l3 : ¬ 9223372036854775807 < 5 + List.length q1.name + 1 + List.length x.fr.name := by omega
           have l4 : ¬ 9223372036854775807 < 5 + List.length q1.name + 1 + List.length x.fr.name + 1 := by omega
           have l5 : ¬ 9223372036854775807 < 5 + List.length q1.name + 1 + List.length x.fr.name + 1 + List.length q2.name := by omega
           have l6 : ¬ 9223372036854775807 < 5 + List.length q1.name + 1 + List.length x.fr.name + 1 + List.length q2.name + 1 := by omega
           have l7 : ¬ 9223372036854775807 < 5 + List.length q1.name + 1 + List.length x.fr.name + 1 + List.length q2.name + 1 + List.length x.to.name := by omega
           have l8 : ¬ 9223372036854775807 < 5 + List.length q1.name + 1 + List.length x.fr.name + 1 + List.length q2.name + 1 + List.length x.to.name + 1 := by omega
           have hk : ∀ W', Below WA.heap.size WA W' -> (W'.cell? ⟨w.heap.size, 0, none⟩ = some (.slice (some ⟨β2, o2, none⟩) c.parts.length cp) /\ W'.cell? ⟨w.heap.size, 1, none⟩ = some (.slice (some ⟨β, o, none⟩) c.pipes.length cq) /\
               W'.cell? ⟨wr.heap.size, 0, none⟩ = some (.int .i64 i1) /\ W'.cell? ⟨wr.heap.size, 1, none⟩ = some (.string ⟨⟨x.fr.name⟩⟩) /\ W'.cell? ⟨wr.heap.size, 2, none⟩ = some (.int .i64 i2) /\ W'.cell? ⟨wr.heap.size, 3, none⟩ = some (.string ⟨⟨x.to.name⟩⟩) /\
               W'.cell? ⟨β2, o2 + i1 * 3 + 1, none⟩ = some (.string ⟨⟨q1.name⟩⟩) /\ W'.cell? ⟨β2, o2 + i2 * 3 + 1, none⟩ = some (.string ⟨⟨q2.name⟩⟩)) := fun W' hb =>
             ⟨cell_below hb (World.block_lt_of_cell? _ _ z0A) z0A, cell_below hb (World.block_lt_of_cell? _ _ z1A) z1A, cell_below hb (World.block_lt_of_cell? _ _ v0) v0, cell_below hb (World.block_lt_of_cell? _ _ v1) v1, cell_below hb (World.block_lt_of_cell? _ _ v2) v2, cell_below hb (World.block_lt_of_cell? _ _ v3) v3, cell_below hb (World.block_lt_of_cell? _ _ u1A) u1A, cell_below hb (World.block_lt_of_cell? _ _ u2A) u2A⟩
           go_region_held3 (fun W' => W'.cell? ⟨w.heap.size, 0, none⟩ = some (.slice (some ⟨β2, o2, none⟩) c.parts.length cp) /\ W'.cell? ⟨w.heap.size, 1, none⟩ = some (.slice (some ⟨β, o, none⟩) c.pipes.length cq) /\
               W'.cell? ⟨wr.heap.size, 0, none⟩ = some (.int .i64 i1) /\ W'.cell? ⟨wr.heap.size, 1, none⟩ = some (.string ⟨⟨x.fr.name⟩⟩) /\ W'.cell? ⟨wr.heap.size, 2, none⟩ = some (.int .i64 i2) /\ W'.cell? ⟨wr.heap.size, 3, none⟩ = some (.string ⟨⟨x.to.name⟩⟩) /\
               W'.cell? ⟨β2, o2 + i1 * 3 + 1, none⟩ = some (.string ⟨⟨q1.name⟩⟩) /\ W'.cell? ⟨β2, o2 + i2 * 3 + 1, none⟩ = some (.string ⟨⟨q2.name⟩⟩))
             (first | exact hk _ (by (repeat (first | exact Below.refl _ _ | apply Below.drew | (refine Below.alloc ?_ ?_ _) | (refine Below.setCell ?_ ?_ _))) <;> ((try simp only [size_alloc, size_setCell, size_drew]) <;> omega)) | fail)
             (first | (go_at_call 82; refine (J2g _ _ _ _ _ _ _ _ (by first | exact hi1 | exact hi2) _ (by first | exact (hk _ (by (repeat (first | exact Below.refl _ _ | apply Below.drew | (refine Below.alloc ?_ ?_ _) | (refine Below.setCell ?_ ?_ _))) <;> ((try simp only [size_alloc, size_setCell, size_drew]) <;> omega))).2.2.2.2.2.2.1 | exact (hk _ (by (repeat (first | exact Below.refl _ _ | apply Below.drew | (refine Below.alloc ?_ ?_ _) | (refine Below.setCell ?_ ?_ _))) <;> ((try simp only [size_alloc, size_setCell, size_drew]) <;> omega))).2.2.2.2.2.2.2)).mono ?_; rintro e w' ⟨rfl, rfl⟩))
           clear hk v0 v1 v2 v3 z0A z1A u1A u2A
           all_goals
             go_wp2_with (go_at_call 88; refine (hws _ _ (by (repeat (first | exact Below.refl _ _ | apply Below.drew | (refine Below.alloc ?_ ?_ _) | (refine Below.setCell ?_ ?_ _))) <;> ((try simp only [size_alloc, size_setCell, size_drew]) <;> omega)) (by simp [ByteArray.size_append, Jgd]; omega)).mono ?_)
             rintro e w4 ⟨rfl, hI4, hB4⟩
             go_wp2
             go_roundg (gk - 1)
             case measure => omega
             case rel => exact ⟨j + 1, by omega, by simp, by rw [hstep]; simpa [Jfq, Jf7] using hI4, hB4⟩
         . have hlt' : ¬ (j : Int) < (c.pipes.length : Int) := by omega
           have hjn : j = c.pipes.length := by omega
           subst hjn
           rw [Jpa.2] at hJ
           have hlen := Any.Builder_Len_f bln b b _ _ hJ
           rw [Lib.byteCells_length] at hlen
           by_cases hl : 16384 < (Jf9 c).length
           . have hl' : (16384 : Int) < ((Jf9 c).length : Int) := by omega
             go_wp2_with (go_at_call 91; refine hlen.mono ?_)
             go_ret2
             have e1 : Jc5 c = 17 := by unfold Jc5; rw [if_neg (by simpa using h), if_pos hl]
             have e2 : fmtC c = [] := by unfold fmtC; rw [e1, if_neg (by decide)]
             rw [e1, e2]
             exact ⟨rfl, hbr⟩
           . have hl' : ¬ (16384 : Int) < ((Jf9 c).length : Int) := by omega
             have e1 : Jc5 c = 0 := by unfold Jc5; rw [if_neg (by simpa using h), if_neg hl]
             have e2 : fmtC c = Jf9 c := by unfold fmtC; rw [e1, if_pos rfl]
             go_wp2_with (first | (go_at_call 91; refine hlen.mono ?_) | (go_at_call 92; refine (Any.Builder_String_any_k bst bldX b b _ _ hJ ?hz).mono ?_))
             case hz => have := hB.size; omega
             rintro e W4 ⟨rfl, hI4, hB4, hK4⟩
             go_wp2
             go_ret2
             rw [e1, e2]
             exact ⟨rfl, hkeep _ (hB.trans hB4)⟩
 . have h' : (Jad c != 0) = true := by simpa using h
   go_wp2
   go_ret2
   have e1 : Jc5 c = Jad c := by unfold Jc5; rw [if_pos h]
   have e2 : fmtC c = [] := by unfold fmtC; rw [e1, if_neg h]
   rw [e1, e2]
   exact ⟨rfl, Jg0 ((Below.refl _ w).alloc (Nat.le_refl _) _) hb1 (by rw [size_alloc]; omega)⟩
theorem Jyp (c : Circuit) (hs : Sized c) : Pure Tryz.prog GL5 23 [c.av] (.tup [.p (.str (fmtC c)), .p (.int .i64 (Jc5 c))]) := by
 refine Pure.of_below Tryz.func23 (by kernel_rfl) rfl rfl fun own w vs hg hsz hlen hv => ?_
 match vs, hlen with
 | [u], _ =>
   obtain ⟨us, rfl, h1, h2⟩ := (hv 0 _ u rfl rfl).agg_inv
   match us, h1 with
   | [sp, sq], _ =>
     refine Calls.mono (J2b c hs own w sp sq ⟨hg, hsz, h2 0 _ sp rfl rfl, h2 1 _ sq rfl rfl⟩) ?_
     rintro e w' ⟨rfl, hb⟩
     refine ⟨_, rfl, .tup _ [_, _] rfl fun i x v hx hv => ?_, hb⟩
     match i with
     | 0 => cases hx; cases hv; exact .p _ _ (.str _)
     | 1 => cases hx; cases hv; exact .p _ _ (.int ..)
     | i + 2 => cases hx
end Go.Am
namespace Go.Am
open Go Go.Proofs Go.Pn
def t23 : Txt := [112, 97, 114, 116, 32, 65, 32, 99, 121, 108, 105, 110, 100, 101, 114, 10, 112, 97, 114, 116, 32, 65, 48, 32, 108, 105, 109, 105, 116, 10, 112, 97, 114, 116, 32, 83, 32, 115, 117, 112, 112, 108, 121, 10, 112, 97, 114, 116, 32, 86, 32, 118, 97, 108, 118, 101, 53, 50, 115, 10, 112, 105, 112, 101, 32, 65, 46, 50, 32, 86, 46, 50, 10, 112, 105, 112, 101, 32, 65, 46, 52, 32, 86, 46, 52, 10, 112, 105, 112, 101, 32, 65, 48, 46, 49, 32, 83, 46, 49, 10, 112, 105, 112, 101, 32, 83, 46, 49, 32, 86, 46, 49, 10]
def u23 : Txt := [112, 105, 112, 101, 32, 65, 46, 50, 32, 86, 46, 50, 10]
theorem Jse : Jc5 Jcp = 0 /\ fmtC Jcp = t23 := by decide +kernel
theorem Jns : prsE t23 = 0 /\ prsI t23 = 0 /\ prsC t23 = Jcp := by decide +kernel
theorem Jnt : prsE u23 = 6 /\ prsI u23 = 0 /\ prsC u23 = noC := by decide +kernel
theorem Jnu : rnmE Jcp [65] [67] = 0 /\ rnmE Jcp [86] [65] = 7 /\ rnmC Jcp [86] [65] = noC := by decide +kernel
theorem Jsf : Jad Jcp = 0 /\ cntR Jcp = [1, 1, 0, 1, 0, 0, 1, 0, 0, 0, 0, 0, 0, 0] := by decide +kernel
def Juv : Circuit := ⟨[⟨1, [67], 0⟩, ⟨6, [67, 48], 0⟩, ⟨0, [83], 0⟩, ⟨3, [86], 0⟩], [⟨⟨0, [50]⟩, ⟨3, [50]⟩⟩, ⟨⟨0, [52]⟩, ⟨3, [52]⟩⟩, ⟨⟨1, [49]⟩, ⟨2, [49]⟩⟩, ⟨⟨2, [49]⟩, ⟨3, [49]⟩⟩]⟩
theorem J2a : rnmC Jcp [65] [67] = Juv := by decide +kernel
theorem w5 {f : Nat} {args : List AV} {r : AV} (h : Pure Tryz.prog GL f args r) : Pure Tryz.prog GL5 f args r := h.wider Jmg
set_option maxRecDepth 40000 in
theorem J8m : Pure Tryz.prog GL5 16 [] (.p (.bool true)) := by
 refine Pure.of_walk (N := 104) Tryz.func16 rfl rfl rfl (by simp) rfl ?_
 obtain ⟨hs, _⟩ := J09
 have hFo := w5 Jyz
 have hF := Jyp Jcp hs
 have hP := w5 (Jqj t23 (by decide))
 have hQ := w5 (Jqj u23 (by decide))
 have hR := w5 (Jqk Jcp [65] [67] hs (by decide) (by decide))
 have hS := w5 (Jqk Jcp [86] [65] hs (by decide) (by decide))
 have hN := w5 (Jyo Jcp hs)
 have hM := w5 (Jzh Jcp Jcp hs hs)
 rw [Jse.1, Jse.2] at hF
 rw [Jns.1, Jns.2.1, Jns.2.2] at hP
 rw [Jnt.1, Jnt.2.1, Jnt.2.2] at hQ
 rw [Jnu.1, J2a] at hR
 rw [Jnu.2.1, Jnu.2.2] at hS
 rw [Jsf.1, Jsf.2] at hN
 simp
 refine Jab hFo ?_
 simp
 refine Jab hF ?_
 simp
 refine Jab hP ?_
 simp
 refine Jab hR ?_
 simp
 refine Jab hS ?_
 simp
 refine Jab hQ ?_
 simp
 refine Jab hN ?_
 simp
 refine Jaj.intro (by kernel_rfl) ?_
 simp
 simp [t23]
 refine Jab hFo ?_
 simp
 refine Jab hM ?_
 simp
 refine ⟨.of (by kernel_rfl), ?_⟩
 simp [Juv, Jaa]
def Circuit.enc (c : Circuit) : List PV := [.lst 3 (c.parts.map Part.enc), .lst 4 (c.pipes.map Pipe.enc)]
theorem Jxx (xs : List Circuit) (q : Circuit -> Bool) (m : Nat) (cap : List AV) (hcap : Ja9 cap = true) (hl : xs.length < 4611686018427387904) (hq : ∀ x ∈ xs, Pure Tryz.prog GL m (x.av :: cap) (.p (.bool (q x)))) : Pure Tryz.prog GL 166 [.p (.lst 2 (xs.map Circuit.enc)), .fn (.func m) cap] (.p (.int .i64 (idxI xs q))) := by
 refine Pure.of_walk (N := 19) Tryz.func166 rfl rfl rfl (by simp) (by first | (simp; done) | simp [*]) ?_
 have hren := fun ρ => (Jf4 (ρ := ρ)).2 cap hcap
 simp
 refine Jam.go [0, 1, 7] [] 0 [] (fun _ => []) (fun _ (k : Nat) => [(8, .p (.int .i64 k))]) (fun _ _ => []) (fun k => k <= xs.length /\ ∀ (j : Nat) x, j < k -> xs[j]? = some x -> q x = false) (fun k => xs.length - k) 0 ⟨by omega, fun j b h => by omega⟩ ?_ ?_
 . simp [hren]
 . rintro k ⟨hk, hp⟩
   simp
   refine Jac (fun h => ?_) (fun h => ?_)
   . simp at h
     obtain ⟨x, e⟩ := Jah h
     simp [h, e, Circuit.enc, -getElem?_pos, List.getElem?_cons_zero, List.getElem?_cons_succ]
     refine Jab (hq x (List.mem_of_getElem? e)) ?_
     simp
     refine Jac (fun h2 => ?_) (fun h2 => ?_)
     . simp [Jaa, Jey e h2 hp]
     . simp [hren]
       refine ⟨wrap_i64 (by omega) (by omega), k + 1, ⟨by omega, Jef hp e h2⟩, by omega, ?_⟩
       simp [hren]
   . simp at h
     have hk2 : k = xs.length := by omega
     subst hk2
     simp [Jaa, Jfz (Jet hp)]
theorem Jxu (xs : List Circuit) (q : Circuit -> Bool) (m : Nat) (cap : List AV) (hcap : Ja9 cap = true) (hl : xs.length < 4611686018427387904) (hq : ∀ x ∈ xs, Pure Tryz.prog GL m (x.av :: cap) (.p (.bool (q x)))) : Pure Tryz.prog GL 76 [.p (.lst 2 (xs.map Circuit.enc)), .fn (.func m) cap] (.p (.bool (xs.any q))) := by
 refine Pure.of_walk (N := 9) Tryz.func76 rfl rfl rfl (by simp) (by first | (simp; done) | simp [*]) ?_
 simp
 refine Jab (Jxx xs q m cap hcap hl hq) ?_
 simp [Jaa]
 rw [Bool.eq_iff_iff]
 simp [Jkp]
theorem Jy1 (c : Circuit) (hs : Sized c) : Pure Tryz.prog GL 77 [c.av] (.p (.bool (!fewP c))) := by
 refine Pure.of_walk (N := 6) Tryz.func77 rfl rfl rfl (by simp) (by first | (simp; done) | simp [*]) ?_
 simp
 refine Jab (Jzf c hs) ?_
 simp [Jaa]
theorem Jy2 (s : Txt) (hs : s.length < 4611686018427387904) : Pure Tryz.prog GL 80 [.p (.str s)] (.p (.bool (decide (60 < s.length)))) := by
 refine Pure.of_walk (N := 6) Tryz.func80 rfl rfl rfl (by simp) (by first | (simp; done) | simp [*]) ?_
 simp
 simp [Jaa]
 omega
theorem Jy0 (cs : List Circuit) (l : List Txt) (hc : ∀ c ∈ cs, Sized c) (hcl : cs.length < 100) (hl : l.length < 100) (hn : ∀ s ∈ l, s.length < 4611686018427387900) : Pure Tryz.prog GL 20 [.p (.lst 2 (cs.map Circuit.enc)), .p (.lst 1 (l.map Txt.enc))] (.p (.bool (!cs.any (fun c => !fewP c) && !Jk5 l))) := by
 refine Pure.of_walk (N := 13) Tryz.func20 rfl rfl rfl (by simp) (by first | (simp; done) | simp [*]) ?_
 simp
 refine Jab (Jxu cs (fun c => !fewP c) 77 [] rfl (by omega) (fun c hc' => Jy1 c (hc c hc'))) ?_
 cases hf : cs.any (fun c => !fewP c) with
 | true =>
   simp [Jaa]
 | false =>
   simp
   refine Jab (Jxv l (fun s => decide (60 < s.length)) 80 [] rfl (by omega) (fun s hs => Jy2 s (by have := hn s hs; omega))) ?_
   simp [Jaa, Jk5]
end Go.Am
namespace Go.Am
open Go Go.Proofs Go.Pn
theorem Pure.nilsA {P : Program} {G : Jae} {f k i : Nat} {args : List AV} {r : AV} (h : Pure P G f args r) (hi : args[i]? = some (.p (.lst k []))) : Pure P G f (args.set i .nils) r := by
 refine ⟨?_, fun own w vs hg hs hl hv => h.run own w vs hg hs (by rw [hl, List.length_set]) fun j x v hx hvj => ?_⟩
 . have := h.pure
   revert this hi
   clear h
   induction args generalizing i with
   | nil => simp
   | cons a l ih =>
     intro hi hp
     simp only [Ja9, Bool.and_eq_true] at hp
     cases i with
     | zero => simp only [List.set_cons_zero, Ja9, hp.2, Bool.and_true]; rfl
     | succ i => simp only [List.set_cons_succ, Ja9, hp.1, Bool.true_and]; exact ih (by simpa using hi) hp.2
 . by_cases e : i = j
   . subst e
     rw [hi] at hx; cases hx
     have hil := (gsI.1 hi).1
     have := hv i .nils v (List.getElem?_set_self hil) hvj
     obtain ⟨a, rfl⟩ := this.nils_inv
     exact .p _ _ (.lst0 ..)
   . exact hv j x v (by rw [List.getElem?_set_ne e]; exact hx) hvj
theorem Jye (c : Circuit) (hs : Sized c) : Pure Tryz.prog GL5 20 [.p (.lst 2 [Circuit.enc c]), .nils] (.p (.bool (fewP c))) := by
 have h0 := Jy0 [c] [] (fun x hx => by rw [List.mem_singleton.1 hx]; exact hs) (by simp) (by simp) (fun s hs => by cases hs)
 have e : (!([c].any fun c => !fewP c) && !Jk5 []) = fewP c := by rw [show Jk5 [] = false from rfl]; simp
 rw [e] at h0
 exact (Pure.nilsA (i := 1) (k := 1) h0 (by simp)).wider Jmg
theorem J8u {c : Circuit} (hf : fewP c = true) (h : Jad c = 0) : Jc5 c = 0 /\ (fmtC c).length <= 16384 /\ c.parts.length <= 12 /\ c.pipes.length <= 24 := by
 have h2 := Jd5 h
 have h3 : Jd7 c := by simpa [fewP] using hf
 obtain ⟨_, _, h4, h5⟩ := h3
 have h6 := (Jeh.1 h).2.1
 have h7 := Jv8 h (k := c.pipes.length)
 rw [Jpa.2] at h7
 have h8 := (Jeh.1 h).1.few
 have e : Jc5 c = 0 := by unfold Jc5; rw [if_neg (by simpa using h), if_neg (by omega)]
 refine ⟨e, ?_, by omega, by omega⟩
 unfold fmtC
 rw [if_pos e]
 omega
end Go.Am
namespace Go.Am
open Go Go.Proofs Go.Pn
set_option maxRecDepth 40000 in
theorem J8q (c : Circuit) (hs : Sized c) : Pure Tryz.prog GL5 34 [c.av] (.p (.bool (fewP c && decide (Jad c = 0)))) := by
 refine Pure.of_walk (N := 11) Tryz.func34 rfl rfl rfl (by simp) rfl ?_
 have hC := w5 (Jzd c hs)
 have hw := Jye c hs
 simp
 refine Jeo ?_
 simp
 refine ⟨_, hw, rfl, ?_⟩
 simp
 cases h : fewP c with
 | true =>
   simp
   refine Jab hC ?_
   simp [Jaa]
 | false => simp [Jaa]
end Go.Am
