/- Contracts of the library: strings.FieldsFunc at spaces; lexer.Fields; chapter 23. -/
import Derived.Test.YthkjeoagelhocaaGreatDoorZN5
import Derived.Test.YthkjeoagelhocaaGreatDoorZN1
import Derived.Shelf.Strings.FieldsFuncAny
set_option linter.unusedVariables false
set_option linter.unusedSimpArgs false
namespace Go.Am
open Go Go.Proofs Go.Shelf Go.RowKit Go.Pn
theorem Jxd (s : Txt) : Lib.goFieldsP (fun x => x == 32) ⟨⟨s⟩⟩ = (fldR s).map fun l => (⟨⟨l⟩⟩ : ByteArray) := by
 rw [<- J9k, List.map_map]
 exact (List.map_id' _).symm
theorem J9j (s : Txt) : (Lib.goFieldsP (fun x => x == 32) ⟨⟨s⟩⟩).map Value.string = (fldR s).map fun l => Value.string ⟨l.toArray⟩ := by
 rw [Jxd, List.map_map]; rfl
theorem J9i (s : Txt) : (Lib.goFieldsP (fun x => x == 32) ⟨⟨s⟩⟩).length = (fldR s).length := by rw [Jxd, List.length_map]
theorem Kam (x : Nat) (hx : x <= 1114111) (w : World) : Calls Tryz.prog 35 #[.int .i32 (x : Int)] w fun e w' => e = .returned (.bool (x == 32)) /\ w' = w := by
 go_enter Tryz.func35, Tryz.ntmps35
 go_wp2
 go_ret
 refine ⟨?_, rfl⟩
 congr 1
 show Value.bool ((x : Int) == 32) = Value.bool (x == 32)
 congr 1
 rw [Bool.eq_iff_iff]
 simp
 omega
set_option maxRecDepth 100000 in
theorem J39 (s : Txt) (hl : s.length <= 100000) : Pure Tryz.prog GL 34 [.p (.str s), .fn (.func 35) []] (.p (.lst 1 ((fldR s).map fun x => [PV.str x]))) := by
 refine Pure.of_below Tryz.func34 (by kernel_rfl) rfl rfl fun own w vs hg hs hlen hv => ?_
 match vs, hlen with
 | [a, f], _ =>
   have ea : a = .string ⟨⟨s⟩⟩ := (hv 0 _ a rfl rfl).str_inv
   subst ea
   obtain ⟨us, rfl, hu⟩ := (hv 1 _ f rfl rfl).fn_inv
   have h0 : us = [] := by
     have := hu.1
     simpa using this
   subst h0
   have c := Any.strings_FieldsFunc_runes ff5 35 #[] (enters_of Tryz.func35 (by kernel_rfl) rfl) (fun x => x == 32) ⟨⟨s⟩⟩ w (by simp [ByteArray.size]; omega)
     (fun W x hx _ => Calls.mono (Kam x hx W) fun e w' h => ⟨h.1, 0, h.2⟩) (by kernel_rfl) (by kernel_rfl)
   rw [J9j, J9i] at c
   refine Calls.mono c ?_
   rintro e w' ⟨A, rfl, _, h2, h3⟩
   exact ⟨_, rfl, Kis hs h2, h3⟩
theorem Ju5 (s : Txt) (hl : s.length <= 100000) : Pure Tryz.prog GL 10 [.p (.str s)] (.p (.lst 1 ((fldR s).map fun x => [PV.str x]))) := by
 refine Pure.of_walk (N := 5) Tryz.func10 rfl rfl rfl (by simp) (by first | (simp; done) | simp [*]) ?_
 simp
 refine Jab (J39 s hl) ?_
 simp [Jaa]
end Go.Am
