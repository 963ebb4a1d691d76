/- Lemmas and contracts for the proof of a statement of this seat. -/
import Derived.Test.YtkofnocfackjiaaGreatDoorZC3
set_option linter.unusedVariables false
set_option linter.unusedSimpArgs false
/- Contracts: slices.Sorted(slices.Values(l)) at texts; the ports of a part. -/
namespace Go.Am
open Go Go.Proofs Go.Pn


theorem c_ValuesT (l : List Txt) : Pure Tryz.prog GL 221 [.p (.lst 1 (l.map Txt.enc))] (seqOf l) := by
  refine Pure.of_walk (N := 4) Tryz.func221 rfl rfl rfl (by simp) (by first | (simp; done) | simp [*]) ?_
  simp
  simp [XEndT]

theorem c_SortedT (l : List Txt) (h0 : l ≠ []) (hl : l.length ≤ 12) : Pure Tryz.prog GL 220 [seqOf l] (.p (.lst 1 ((isortL l).map Txt.enc))) := by
  refine Pure.of_walk (N := 9) Tryz.func220 rfl rfl rfl (by simp) (by first | (simp; done) | simp [*]) ?_
  simp
  refine xcall_gives (g_CollectT l _ _ h0 (by omega)) ?_
  simp
  refine xcall_gives (g_SortT _ _ _ 0 none (by omega) (by simp [get]) hl) ?_
  simp [XEndT, isortL_len]
  rw [List.take_of_length_le (by simp [isortL_len])]
  rfl

theorem kindPorts_sorted {k : Nat} (h : k < 14) : isortL (kindPorts k) = kindPorts k ∧ kindPorts k ≠ [] ∧ (kindPorts k).length ≤ 12 := (by decide : ∀ k, k < 14 → isortL (kindPorts k) = kindPorts k ∧ kindPorts k ≠ [] ∧ (kindPorts k).length ≤ 12) k h

theorem c_circuit_ports (p : Part) (hk : 0 ≤ p.kind ∧ p.kind < 14) : Pure Tryz.prog GL 183 [p.av] (.p (.lst 1 ((portsOf p).map Txt.enc))) := by
  refine Pure.of_walk (N := 14) Tryz.func183 rfl rfl rfl (by simp) (by first | (simp; done) | simp [*]) ?_
  have h4 : p.kind.toNat < 14 := by omega
  obtain ⟨h1, h2, h3⟩ := kindPorts_sorted h4
  simp
  refine xcall_pure (c_part_Ports p.kind) ?_
  simp [kindErr_ok.2 hk]
  refine xcall_pure (c_ValuesT (kindPorts p.kind.toNat)) ?_
  simp
  refine xcall_pure (c_SortedT (kindPorts p.kind.toNat) h2 h3) ?_
  simp [XEndT, portsOf, h1]

def portErr (c : Circuit) (p : Port) : Int := if p.part < 0 ∨ (c.parts.length : Int) ≤ p.part then 2 else match c.parts[p.part.toNat]? with
  | some x => if p.name ∈ portsOf x then 0 else 6
  | none => 2
def rangeErr (c : Circuit) (p : Port) : Int := if p.part < 0 ∨ (c.parts.length : Int) ≤ p.part then 2 else 0
def nameErr (c : Circuit) (p : Port) : Int := match c.parts[p.part.toNat]? with
  | some x => if p.name ∈ portsOf x then 0 else 6
  | none => 0

def firstErr (f : Nat → Int) : Nat → Int
  | 0 => 0
  | n + 1 => if firstErr f n ≠ 0 then firstErr f n else f n
theorem firstErr_at {f : Nat → Int} {k n : Nat} (h : firstErr f k = 0) (hk : k < n) (hf : f k ≠ 0) : firstErr f n = f k := by
  induction n with
  | zero => omega
  | succ n ih =>
    by_cases e : k = n
    · subst e; simp [firstErr, h]
    · have := ih (by omega)
      simp [firstErr, this, hf]
theorem firstErr_next {f : Nat → Int} {k : Nat} (h : firstErr f k = 0) (hf : f k = 0) : firstErr f (k + 1) = 0 := by simp [firstErr, h, hf]

theorem firstErr_zero {f : Nat → Int} : ∀ {n : Nat}, firstErr f n = 0 → ∀ {k : Nat}, k < n → f k = 0
  | 0, _, k, hk => by omega
  | n + 1, h, k, hk => by
    simp only [firstErr] at h
    split at h
    · rename_i h1; exact absurd h h1
    · rename_i h1
      by_cases e : k = n
      · subst e; exact h
      · exact firstErr_zero (by simpa using h1) (by omega)

def errAt {α : Type} (xs : List α) (f : α → Int) (k : Nat) : Int := match xs[k]? with | some x => f x | none => 0
def rangeErrs (c : Circuit) (l : List Port) : Int := firstErr (errAt l (rangeErr c)) l.length
def nameErrs (c : Circuit) (l : List Port) : Int := firstErr (errAt l (nameErr c)) l.length

theorem c_circuit_indexed (c : Circuit) (l : List Port) (hc : Sized c) (hl : l.length < 1000000) : Pure Tryz.prog GL 112 [c.av, .p (.lst 2 (l.map Port.enc))] (.p (.int .i64 (rangeErrs c l))) := by
  refine Pure.of_walk (N := 25) Tryz.func112 rfl rfl rfl (by simp) (by first | (simp; done) | simp [*]) ?_
  simp
  refine XLoop.go [2, 7, 8] [0] 0 [] (fun _ => []) (fun _ (k : Nat) => [(9, .p (.int .i64 k))]) (fun _ _ => []) (fun k => k ≤ l.length ∧ firstErr (errAt l (rangeErr c)) k = 0) (fun k => l.length - k) 0 ⟨by omega, rfl⟩ ?_ ?_
  · simp
  · rintro k ⟨hk, hp⟩
    simp
    refine xif_split (fun h => ?_) (fun h => ?_)
    · simp at h
      obtain ⟨x, e⟩ := get_lt h
      have hx : errAt l (rangeErr c) k = rangeErr c x := by simp [errAt, e, -getElem?_pos]
      by_cases hb : x.part < 0 ∨ (c.parts.length : Int) ≤ x.part
      · have h2 : rangeErr c x = 2 := if_pos hb
        have h3 : rangeErrs c l = 2 := by rw [rangeErrs, firstErr_at hp h (by rw [hx, h2]; decide), hx, h2]
        simp [h, e, -getElem?_pos, List.getElem?_cons_zero, List.getElem?_cons_succ]
        repeat' (first | (apply xif_split <;> intro hq <;> (try simp at hq) <;> (try simp [hq])) | (apply xdec_split <;> intro hq <;> (try simp at hq) <;> (try simp [hq])))
        all_goals (try simp [XEndT, h3])
        all_goals omega
      · have h2 : rangeErr c x = 0 := if_neg hb
        have h4 : ¬ x.part < 0 := by omega
        have h5 : ¬ (c.parts.length : Int) ≤ x.part := by omega
        simp [h, e, h4, h5, -getElem?_pos, List.getElem?_cons_zero, List.getElem?_cons_succ]
        refine ⟨wrap_i64 (by omega) (by omega), k + 1, ⟨by omega, firstErr_next hp (by rw [hx, h2])⟩, by omega, ?_⟩
        simp
    · simp at h
      have hk2 : k = l.length := by omega
      subst hk2
      simp [XEndT, rangeErrs, hp]

theorem c_circuit_exists (c : Circuit) (l : List Port) (hc : Sized c) (hl : l.length < 1000000) (hk : ∀ p ∈ c.parts, 0 ≤ p.kind ∧ p.kind < 14) (hr : ∀ p ∈ l, 0 ≤ p.part ∧ p.part < c.parts.length) : Pure Tryz.prog GL 113 [c.av, .p (.lst 2 (l.map Port.enc))] (.p (.int .i64 (nameErrs c l))) := by
  refine Pure.of_walk (N := 25) Tryz.func113 rfl rfl rfl (by simp) (by first | (simp; done) | simp [*]) ?_
  simp
  refine XLoop.go [2, 7, 8] [0] 0 [] (fun _ => []) (fun _ (k : Nat) => [(9, .p (.int .i64 k))]) (fun _ _ => []) (fun k => k ≤ l.length ∧ firstErr (errAt l (nameErr c)) k = 0) (fun k => l.length - k) 0 ⟨by omega, rfl⟩ ?_ ?_
  · simp
  · rintro k ⟨hk1, hp⟩
    simp
    refine xif_split (fun h => ?_) (fun h => ?_)
    · simp at h
      obtain ⟨x, e⟩ := get_lt h
      have hx : errAt l (nameErr c) k = nameErr c x := by simp [errAt, e, -getElem?_pos]
      obtain ⟨hr1, hr2⟩ := hr x (List.mem_of_getElem? e)
      obtain ⟨y, ey⟩ := get_lt (xs := c.parts) (k := x.part.toNat) (by omega)
      simp [h, e, -getElem?_pos, List.getElem?_cons_zero, List.getElem?_cons_succ]
      refine XDraw.intro (by kernel_rfl) ?_
      simp [hr1, hr2, ey, -getElem?_pos, List.getElem?_cons_zero, List.getElem?_cons_succ]
      refine xcall_pure (c_circuit_ports y (hk y (List.mem_of_getElem? ey))) ?_
      simp
      have hlen : (portsOf y).length < 1000000 := by
        have h5 := (hk y (List.mem_of_getElem? ey))
        have h6 := (kindPorts_sorted (k := y.kind.toNat) (by omega)).2.2
        simp only [portsOf]; omega
      refine xcall_pure (c_Con_Txt (portsOf y) x.name (by omega)) ?_
      simp
      refine ⟨.of (by kernel_rfl), ?_⟩
      have hn : nameErr c x = if x.name ∈ portsOf y then 0 else 6 := by simp [nameErr, ey, -getElem?_pos]
      refine xif_split (fun h2 => ?_) (fun h2 => ?_)
      · simp at h2
        have h3 : nameErrs c l = 6 := by rw [nameErrs, firstErr_at hp h (by rw [hx, hn, if_neg h2]; decide), hx, hn, if_neg h2]
        simp [XEndT, h3]
      · simp at h2
        simp
        refine ⟨wrap_i64 (by omega) (by omega), k + 1, ⟨by omega, firstErr_next hp (by rw [hx, hn, if_pos h2])⟩, by omega, ?_⟩
        simp
    · simp at h
      have hk2 : k = l.length := by omega
      subst hk2
      simp [XEndT, nameErrs, hp]

end Go.Am
/- Contracts: package circuit: Check and what stands on it. -/
namespace Go.Am
open Go Go.Proofs Go.Pn

def partAt (c : Circuit) (k : Nat) : Int := match c.parts[k]? with
  | some p => if partErr p ≠ 0 then partErr p else if 0 < k ∧ ¬ Op.bytesLess ((c.parts[k - 1]?.map (·.name)).getD []) p.name = true then 9 else 0
  | none => 0
def ownerAt (c : Circuit) (k : Nat) : Int := match c.parts[k]? with
  | some p => if p.kind = 6 ∧ ownerI c p.name < 0 then 6 else 0
  | none => 0
def pipeErr (c : Circuit) (x : Pipe) : Int := if rangeErrs c [x.fr, x.to] ≠ 0 then rangeErrs c [x.fr, x.to] else if nameErrs c [x.fr, x.to] ≠ 0 then nameErrs c [x.fr, x.to] else if 0 ≤ cmpPort x.fr x.to then 9 else 0
def pipeAt (c : Circuit) (k : Nat) : Int := match c.pipes[k]? with
  | some x => if pipeErr c x ≠ 0 then pipeErr c x else match k, c.pipes[k - 1]? with
    | _ + 1, some y => if 0 ≤ cmpPipe y x then 9 else 0
    | _, _ => 0
  | none => 0
def checkP (c : Circuit) : Int :=
  if 64 < c.parts.length then 5 else
  if firstErr (partAt c) c.parts.length ≠ 0 then firstErr (partAt c) c.parts.length else
  if firstErr (ownerAt c) c.parts.length ≠ 0 then firstErr (ownerAt c) c.parts.length else
  if 256 < c.pipes.length then 5 else firstErr (pipeAt c) c.pipes.length

theorem rangeErrs_two {c : Circuit} {a b : Port} (h : rangeErrs c [a, b] = 0) : ∀ p ∈ [a, b], 0 ≤ p.part ∧ p.part < c.parts.length := by
  have h1 := firstErr_zero (n := 2) h (k := 0) (by omega)
  have h2 := firstErr_zero (n := 2) h (k := 1) (by omega)
  simp [errAt, rangeErr] at h1 h2
  intro p hp
  simp at hp
  rcases hp with rfl | rfl <;> omega

theorem c_circuit_Check (c : Circuit) (hc : Sized c) : Pure Tryz.prog GL 106 [c.av] (.p (.int .i64 (checkP c))) := by
  refine Pure.of_walk (N := 115) Tryz.func106 rfl rfl rfl (by simp) (by first | (simp; done) | simp [*]) ?_
  simp
  refine xif_split (fun h => ?_) (fun h => ?_)
  · have h' : 64 < c.parts.length := by simp at h; omega
    have hP : checkP c = 5 := by unfold checkP; rw [if_pos h']
    simp [XEndT, hP]
  · have h0 : ¬ 64 < c.parts.length := by simp at h; omega
    simp
    refine XLoop.go [1, 17, 18] [0] 0 [] (fun _ => []) (fun _ (k : Nat) => [(19, .p (.int .i64 k))]) (fun _ _ => []) (fun k => k ≤ c.parts.length ∧ firstErr (partAt c) k = 0) (fun k => c.parts.length - k) 0 ⟨by omega, rfl⟩ ?_ ?_
    · simp
    · rintro k ⟨hk, hp⟩
      simp
      refine xif_split (fun h1 => ?_) (fun h1 => ?_)
      · simp at h1
        obtain ⟨x, e⟩ := get_lt h1
        have hbad : ∀ m : Int, partAt c k = m → m ≠ 0 → checkP c = m := by
          intro m h2 h3
          have h4 : firstErr (partAt c) c.parts.length = m := by rw [firstErr_at hp h1 (by rw [h2]; exact h3), h2]
          unfold checkP
          rw [if_neg h0, h4, if_pos h3]
        have hx : partAt c k = if partErr x ≠ 0 then partErr x else if 0 < k ∧ ¬ Op.bytesLess ((c.parts[k - 1]?.map (·.name)).getD []) x.name = true then 9 else 0 := by simp only [partAt, e]
        simp [h1, e, -getElem?_pos, List.getElem?_cons_zero, List.getElem?_cons_succ]
        refine xcall_pure (c_part_Check x (by have := hc.names x (List.mem_of_getElem? e); omega)) ?_
        simp
        refine xif_split (fun h2 => ?_) (fun h2 => ?_)
        · simp at h2
          have h3 := hbad (partErr x) (by rw [hx, if_pos h2]) h2
          simp [XEndT, h3]
        · simp at h2
          rw [if_neg (by simp [h2])] at hx
          cases k with
          | zero =>
            simp
            refine XDraw.intro (by kernel_rfl) ?_
            simp
            refine ⟨.of (by kernel_rfl), 0 + 1, ⟨by omega, firstErr_next hp (by rw [hx]; simp)⟩, by omega, ?_⟩
            simp
          | succ k =>
            obtain ⟨y, ey⟩ := get_lt (xs := c.parts) (k := k) (by omega)
            have e0 : (0 : Int) < (k : Int) + 1 := by omega
            have e1 : (k : Int) + 1 - 1 = k := by omega
            have e2 : k < c.parts.length := by omega
            simp
            refine XDraw.intro (by kernel_rfl) ?_
            simp [e0, e1, e2, ey, -getElem?_pos, List.getElem?_cons_zero, List.getElem?_cons_succ]
            refine ⟨wrap_i64 (by omega) (by omega), .of (by kernel_rfl), ?_⟩
            have hk1 : k + 1 - 1 = k := by omega
            rw [hk1, ey] at hx
            simp at hx
            refine xif_split (fun h3 => ?_) (fun h3 => ?_)
            · have h5 : Op.bytesLess y.name x.name = false := by rw [bl_le] at h3; simpa using h3
              have h4 := hbad 9 (by rw [hx]; simp [h5]) (by decide)
              simp [XEndT, h4]
            · have h5 : Op.bytesLess y.name x.name = true := by rw [bl_le] at h3; simpa using h3
              simp [h5] at hx
              simp
              refine ⟨wrap_i64 (by omega) (by omega), k + 1 + 1, ⟨by omega, firstErr_next hp hx⟩, by omega, ?_⟩
              simp
      · simp at h1
        have hk2 : k = c.parts.length := by omega
        subst hk2
        simp
        refine XLoop.go [1, 45, 46] [0] 0 [] (fun _ => []) (fun _ (k : Nat) => [(47, .p (.int .i64 k))]) (fun _ _ => []) (fun k => k ≤ c.parts.length ∧ firstErr (ownerAt c) k = 0) (fun k => c.parts.length - k) 0 ⟨by omega, rfl⟩ ?_ ?_
        · simp
        · rintro k ⟨hk, hp2⟩
          simp
          refine xif_split (fun h1 => ?_) (fun h1 => ?_)
          · simp at h1
            obtain ⟨x, e⟩ := get_lt h1
            simp [h1, e, -getElem?_pos, List.getElem?_cons_zero, List.getElem?_cons_succ]
            have hx : ownerAt c k = if x.kind = 6 ∧ ownerI c x.name < 0 then 6 else 0 := by simp only [ownerAt, e]
            refine xif_split (fun h2 => ?_) (fun h2 => ?_)
            · simp at h2
              simp [h2]
              refine xcall_pure (c_circuit_owner c ⟨6, x.name, x.delay⟩ hc (hc.names x (List.mem_of_getElem? e))) ?_
              simp
              refine xif_split (fun h3 => ?_) (fun h3 => ?_)
              · simp at h3
                rw [if_pos ⟨h2, h3⟩] at hx
                have hP : checkP c = 6 := by unfold checkP; rw [if_neg h0, hp, firstErr_at hp2 h1 (by rw [hx]; decide), hx]; simp
                simp [XEndT, hP]
              · simp at h3
                rw [if_neg (by omega)] at hx
                simp
                refine ⟨wrap_i64 (by omega) (by omega), k + 1, ⟨by omega, firstErr_next hp2 hx⟩, by omega, ?_⟩
                simp
            · simp at h2
              rw [if_neg (by simp [h2])] at hx
              simp [h2]
              refine ⟨wrap_i64 (by omega) (by omega), k + 1, ⟨by omega, firstErr_next hp2 hx⟩, by omega, ?_⟩
              simp
          · simp at h1
            have hk2 : k = c.parts.length := by omega
            subst hk2
            simp
            refine xif_split (fun h3 => ?_) (fun h3 => ?_)
            · have h3' : 256 < c.pipes.length := by simp at h3; omega
              have hP : checkP c = 5 := by unfold checkP; rw [if_neg h0, hp, hp2]; simp [h3']
              simp [XEndT, hP]
            · have h3' : ¬ 256 < c.pipes.length := by simp at h3; omega
              simp
              refine XLoop.go [1, 66, 67] [0] 0 [] (fun _ => []) (fun _ (k : Nat) => [(68, .p (.int .i64 k))]) (fun _ _ => []) (fun k => k ≤ c.pipes.length ∧ firstErr (pipeAt c) k = 0) (fun k => c.pipes.length - k) 0 ⟨by omega, rfl⟩ ?_ ?_
              · simp
              · rintro k ⟨hk, hp3⟩
                simp
                refine xif_split (fun h1 => ?_) (fun h1 => ?_)
                · simp at h1
                  obtain ⟨x, e⟩ := get_lt h1
                  have hkinds : ∀ p ∈ c.parts, 0 ≤ p.kind ∧ p.kind < 14 := by
                    intro p hpm
                    obtain ⟨j, hj, rfl⟩ := List.getElem_of_mem hpm
                    have h7 := firstErr_zero hp hj
                    simp only [partAt, List.getElem?_eq_getElem hj] at h7
                    have h8 : kindErr c.parts[j].kind = 0 := by
                      by_cases h9 : kindErr c.parts[j].kind = 0
                      · exact h9
                      · exfalso
                        have h10 : partErr c.parts[j] ≠ 0 := by simp [partErr, h9]
                        rw [if_pos h10] at h7
                        exact h10 h7
                    exact kindErr_ok.1 h8
                  have hbad : ∀ m : Int, pipeAt c k = m → m ≠ 0 → checkP c = m := by
                    intro m h2 h3
                    have h4 : firstErr (pipeAt c) c.pipes.length = m := by rw [firstErr_at hp3 h1 (by rw [h2]; exact h3), h2]
                    unfold checkP
                    rw [if_neg h0, hp, hp2, h4]
                    simp [h3']
                  have hx : ∀ m, pipeErr c x = m → m ≠ 0 → pipeAt c k = m := by
                    intro m h2 h3
                    simp only [pipeAt, e]
                    rw [if_pos (by rw [h2]; exact h3), h2]
                  simp [h1, e, -getElem?_pos, List.getElem?_cons_zero, List.getElem?_cons_succ]
                  refine xcall_lent ?_
                  simp
                  refine ⟨_, c_circuit_indexed c [x.fr, x.to] hc (by simp), rfl, ?_⟩
                  simp
                  refine xif_split (fun h4 => ?_) (fun h4 => ?_)
                  · simp at h4
                    have h5 := hbad _ (hx (rangeErrs c [x.fr, x.to]) (by simp [pipeErr, h4]) h4) h4
                    simp [XEndT, h5]
                  · simp at h4
                    simp
                    refine xcall_lent ?_
                    simp
                    refine ⟨_, c_circuit_exists c [x.fr, x.to] hc (by simp) hkinds (rangeErrs_two h4), rfl, ?_⟩
                    simp
                    refine xif_split (fun h5 => ?_) (fun h5 => ?_)
                    · simp at h5
                      have h6 := hbad _ (hx (nameErrs c [x.fr, x.to]) (by simp [pipeErr, h4, h5]) h5) h5
                      simp [XEndT, h6]
                    · simp at h5
                      have hp0 : pipeErr c x = if 0 ≤ cmpPort x.fr x.to then 9 else 0 := by simp [pipeErr, h4, h5]
                      simp
                      refine XDraw.intro (by kernel_rfl) ?_
                      simp
                      refine xcall_pure (c_circuit_compare x.fr x.to) ?_
                      simp
                      by_cases h6 : 0 ≤ cmpPort x.fr x.to
                      · have h7 := hbad 9 (hx 9 (by rw [hp0, if_pos h6]) (by decide)) (by decide)
                        simp [h6]
                        refine ⟨.of (by kernel_rfl), ?_⟩
                        simp [XEndT, h7]
                      · rw [if_neg h6] at hp0
                        simp [h6]
                        cases k with
                        | zero =>
                          simp
                          refine ⟨.of (by kernel_rfl), 0 + 1, ⟨by omega, firstErr_next hp3 (by simp [pipeAt, e, hp0, -getElem?_pos])⟩, by omega, ?_⟩
                          simp
                        | succ k =>
                          obtain ⟨y, ey⟩ := get_lt (xs := c.pipes) (k := k) (by omega)
                          have e0 : (0 : Int) < (k : Int) + 1 := by omega
                          have e1 : (k : Int) + 1 - 1 = k := by omega
                          have e2 : k < c.pipes.length := by omega
                          have hq : pipeAt c (k + 1) = if 0 ≤ cmpPipe y x then 9 else 0 := by
                            have hk1 : k + 1 - 1 = k := by omega
                            simp only [pipeAt, e, hp0, hk1, ey]
                            simp
                          simp [e0, e1, e2, ey, -getElem?_pos, List.getElem?_cons_zero, List.getElem?_cons_succ]
                          refine ⟨wrap_i64 (by omega) (by omega), ?_⟩
                          refine xcall_pure (c_circuit_pipes y x) ?_
                          simp
                          refine ⟨.of (by kernel_rfl), ?_⟩
                          refine xif_split (fun h8 => ?_) (fun h8 => ?_)
                          · simp at h8
                            have h9 := hbad 9 (by rw [hq, if_pos h8]) (by decide)
                            simp [XEndT, h9]
                          · simp at h8
                            simp
                            refine ⟨wrap_i64 (by omega) (by omega), k + 1 + 1, ⟨by omega, firstErr_next hp3 (by rw [hq, if_neg (by omega)])⟩, by omega, ?_⟩
                            simp
                · simp at h1
                  have hk2 : k = c.pipes.length := by omega
                  subst hk2
                  have hP : checkP c = 0 := by unfold checkP; rw [if_neg h0, hp, hp2, hp3]; simp [h3']
                  simp [XEndT, hP]

end Go.Am
/- Contracts: package circuit: Find, all, Ports, Same, moved. -/
namespace Go.Am
open Go Go.Proofs Go.Pn


def allUp (c : Circuit) : Nat → List Port
  | 0 => []
  | k + 1 => allUp c k ++ match c.parts[k]? with
    | some p => (portsOf p).map fun s => ⟨k, s⟩
    | none => []
def allP (c : Circuit) : List Port := allUp c c.parts.length

def kindsOk (c : Circuit) : Prop := ∀ p ∈ c.parts, 0 ≤ p.kind ∧ p.kind < 14

theorem portsOf_len {p : Part} (h : 0 ≤ p.kind ∧ p.kind < 14) : (portsOf p).length ≤ 12 := (kindPorts_sorted (k := p.kind.toNat) (by omega)).2.2
theorem allUp_len {c : Circuit} (h : kindsOk c) : ∀ {k : Nat}, (allUp c k).length ≤ 12 * k
  | 0 => by simp [allUp]
  | k + 1 => by
    have := allUp_len h (k := k)
    simp only [allUp]
    split
    · rename_i p hp
      have := portsOf_len (h p (List.mem_of_getElem? hp))
      simp; omega
    · simp; omega

def allIn (c : Circuit) (k : Nat) (l : List Txt) : List Port := allUp c k ++ l.map fun s => ⟨k, s⟩
theorem allIn_nil {c : Circuit} {k : Nat} : allIn c k [] = allUp c k := by simp [allIn]
theorem allIn_snoc {c : Circuit} {k i : Nat} {l : List Txt} {y : Txt} (e : l[i]? = some y) : allIn c k (l.take (i + 1)) = allIn c k (l.take i) ++ [⟨k, y⟩] := by simp only [allIn]; rw [take_snoc e]; simp
theorem allIn_len {c : Circuit} {k i : Nat} {l : List Txt} : (allIn c k (l.take i)).length ≤ (allUp c k).length + l.length := by simp [allIn]; omega
theorem allIn_all {c : Circuit} {k : Nat} {p : Part} (e : c.parts[k]? = some p) : allIn c k (portsOf p) = allUp c (k + 1) := by simp only [allIn, allUp, e]

theorem c_circuit_all (c : Circuit) (hk : kindsOk c) (hn : c.parts.length ≤ 100) : Pure Tryz.prog GL 137 [c.av] (.p (.lst 2 ((allP c).map Port.enc))) := by
  refine Pure.of_walk (N := 32) Tryz.func137 rfl rfl rfl (by simp) (by first | (simp; done) | simp [*]) ?_
  simp
  refine XLoop.go [9, 10] [] 1 [1] (nms [3]) (fun nx (k : Nat) => [(3, .acc nx 2 (allUp c k).length), (11, .p (.int .i64 k))]) (fun nx k => [(nx, accB 2 ((allUp c k).map Port.row))]) (fun k => k ≤ c.parts.length) (fun k => c.parts.length - k) 0 (by omega) ?_ ?_
  · simp [allUp]
  · intro k hk1
    have hb := allUp_len hk (k := k)
    simp
    refine xif_split (fun h => ?_) (fun h => ?_)
    · simp at h
      obtain ⟨x, e⟩ := get_lt h
      have hx := hk x (List.mem_of_getElem? e)
      have hpl := portsOf_len hx
      simp [h, e, -getElem?_pos, List.getElem?_cons_zero, List.getElem?_cons_succ]
      refine xcall_pure (c_circuit_ports x hx) ?_
      simp
      refine XLoop.gor [4, 9, 10, 11, 17, 18] [] [0, 1, 2] (fun st => [0, nameOf (slot st.t 3), 2]) (fun (i : Nat) => [(3, .acc 1 2 (allIn c k ((portsOf x).take i)).length), (19, .p (.int .i64 i))]) (fun i => [(1, accB 2 ((allIn c k ((portsOf x).take i)).map Port.row))]) (fun i => i ≤ (portsOf x).length) (fun i => (portsOf x).length - i) 0 (by omega) ?_ ?_
      · simp [allIn_nil]
      · intro i hi
        have hil := allIn_len (c := c) (k := k) (l := portsOf x) (i := i)
        simp
        refine xif_split (fun h2 => ?_) (fun h2 => ?_)
        · simp at h2
          obtain ⟨y, e2⟩ := get_lt h2
          have hs := allIn_snoc (c := c) (k := k) e2
          simp [h2, e2, -getElem?_pos, List.getElem?_cons_zero, List.getElem?_cons_succ]
          refine ⟨by omega, wrap_i64 (by omega) (by omega), i + 1, by omega, by omega, ?_⟩
          simp [hs]
        · simp at h2
          have h3 : i = (portsOf x).length := by omega
          subst h3
          have ha := allIn_all e
          simp [ha]
          refine ⟨wrap_i64 (by omega) (by omega), k + 1, by omega, by omega, ?_⟩
          simp
    · simp at h
      have hk2 : k = c.parts.length := by omega
      subst hk2
      simp [XEndT, allP]

theorem c_circuit_Find (c : Circuit) (s : Txt) (hc : Sized c) : Pure Tryz.prog GL 67 [c.av, .p (.str s)] (.tup [.p (.int .i64 (if checkP c ≠ 0 then 0 else if idxI c.parts (fun p => decide (p.name = s)) < 0 then 0 else idxI c.parts fun p => decide (p.name = s))), .p (.int .i64 (if checkP c ≠ 0 then checkP c else if idxI c.parts (fun p => decide (p.name = s)) < 0 then 6 else 0))]) := by
  refine Pure.of_walk (N := 19) Tryz.func67 rfl rfl rfl (by simp) (by first | (simp; done) | simp [*]) ?_
  simp
  refine xcall_pure (c_circuit_Check c hc) ?_
  by_cases h : checkP c = 0
  · simp [h]
    refine xcall_pure (c_circuit_find c s hc) ?_
    generalize (idxI c.parts fun p => decide (p.name = s)) = m
    by_cases h2 : m < 0
    · simp [h2, XEndT, h]
    · simp [h2, XEndT, h]
  · simp [h, XEndT]

end Go.Am
/- Contracts: the reference of chapter 21: the checks. -/
namespace Go.Am
open Go Go.Proofs Go.Pn

theorem c_pneumaticref21_Index (c : Circuit) (s : Txt) (hc : Sized c) : Pure Tryz.prog GL 145 [c.av, .p (.str s)] (.p (.int .i64 (idxI c.parts fun p => decide (p.name = s)))) := by
  refine Pure.of_walk (N := 22) Tryz.func145 rfl rfl rfl (by simp) (by first | (simp; done) | simp [*]) ?_
  simp
  refine XLoop.go [1, 2] [0] 0 [] (fun _ => []) (fun _ (k : Nat) => [(5, .p (.int .i64 k))]) (fun _ _ => []) (fun k => k ≤ c.parts.length ∧ ∀ (j : Nat) x, j < k → c.parts[j]? = some x → decide (x.name = s) = false) (fun k => c.parts.length - k) 0 ⟨by omega, fun j x h => by omega⟩ ?_ ?_
  · simp
  · rintro k ⟨hk, hp⟩
    have hc1 := hc.parts
    simp
    refine xif_split (fun h => ?_) (fun h => ?_)
    · simp at h
      obtain ⟨x, e⟩ := get_lt h
      simp [h, e, -getElem?_pos, List.getElem?_cons_zero, List.getElem?_cons_succ]
      refine xif_split (fun h2 => ?_) (fun h2 => ?_)
      · simp [XEndT, idxI_at (q := fun p => decide (p.name = s)) e h2 hp]
      · simp
        refine ⟨wrap_i64 (by omega) (by omega), k + 1, ⟨by omega, ?_⟩, by omega, ?_⟩
        · simpa using below_next (P := fun p : Part => decide (p.name = s) = false) hp e h2
        · simp
    · simp at h
      have : k = c.parts.length := by omega
      subst this
      have hI : (idxI c.parts fun p => decide (p.name = s)) = -1 := idxI_none (below_all hp)
      simp [XEndT, hI]

def cylB (c : Circuit) (s : Txt) : Bool := match c.parts.findIdx? fun p => decide (p.name = s) with
  | none => false
  | some i => decide ((c.parts[i]?.map (·.kind)) = some 1)

theorem c_pneumaticref21_cylinder (c : Circuit) (s : Txt) (hc : Sized c) : Pure Tryz.prog GL 199 [c.av, .p (.str s)] (.p (.bool (cylB c s))) := by
  refine Pure.of_walk (N := 20) Tryz.func199 rfl rfl rfl (by simp) (by first | (simp; done) | simp [*]) ?_
  simp
  refine xcall_pure (c_pneumaticref21_Index c s hc) ?_
  rcases idxI_cases c.parts (fun q => decide (q.name = s)) with ⟨h1, h2⟩ | ⟨i, x, h1, h2, h3, h4⟩
  · simp [h2, XEndT, cylB, h1]
  · obtain ⟨h5, h6⟩ := List.getElem?_eq_some_iff.1 h3
    have h7 : (0 : Int) ≤ i := by omega
    simp [h2, h3, h5, h7, -getElem?_pos, List.getElem?_cons_zero, List.getElem?_cons_succ]
    simp [XEndT, cylB, h1, h3, -getElem?_pos]

def belB (c : Circuit) (s : Txt) : Bool := decide (1 < s.length) && (decide (s.getLast? = some 48) || decide (s.getLast? = some 49)) && cylB c s.dropLast

theorem c_pneumaticref21_belongs (c : Circuit) (s : Txt) (hc : Sized c) (hs : s.length < 4611686018427387900) : Pure Tryz.prog GL 142 [c.av, .p (.str s)] (.p (.bool (belB c s))) := by
  refine Pure.of_walk (N := 32) Tryz.func142 rfl rfl rfl (by simp) (by first | (simp; done) | simp [*]) ?_
  by_cases h : 1 < s.length
  · obtain ⟨x, e⟩ := get_lt (xs := s) (k := s.length - 1) (by omega)
    have hl : s.getLast? = some x := by rw [List.getLast?_eq_getElem?]; exact e
    have h1 : (1 : Int) < s.length := by omega
    have h2 : (0 : Int) ≤ (s.length : Int) - 1 := by omega
    have h3 : ((s.length : Int) - 1).toNat = s.length - 1 := by omega
    have h4 : (s.length : Int) - 1 ≤ s.length := by omega
    have h5 : ((x.toNat : Int) = 48) ↔ x = 48 := by rw [← UInt8.toNat_inj]; simp; omega
    have h6 : ((x.toNat : Int) = 49) ↔ x = 49 := by rw [← UInt8.toNat_inj]; simp; omega
    simp
    refine XDraw.intro (by kernel_rfl) ?_
    simp [h, h1, h2, h3, h4, e, -getElem?_pos, List.getElem?_cons_zero, List.getElem?_cons_succ]
    refine ⟨wrap_i64 (by omega) (by omega), by omega, ?_⟩
    have hd : s.take (s.length - 1) = s.dropLast := by rw [List.dropLast_eq_take]
    have h7 : (1 : Int) ≤ s.length := by omega
    have h8 : (s.length : Int) - 1 ≤ s.length := by omega
    have hcl : Sized c := hc
    by_cases e1 : x = 48
    · subst e1
      simp [h, h1]
      refine ⟨wrap_i64 (by omega) (by omega), ?_⟩
      rw [if_pos ⟨h7, h8⟩]
      simp [h3, hd]
      refine xcall_pure (c_pneumaticref21_cylinder c s.dropLast hc) ?_
      simp
      refine ⟨.of (by kernel_rfl), ?_⟩
      simp [XEndT, belB, h, hl]
    · have e1' : ¬ (x.toNat : Int) = 48 := fun h => e1 (h5.1 h)
      simp [e1', h, h1, h2, h3, h4, e, -getElem?_pos, List.getElem?_cons_zero, List.getElem?_cons_succ]
      refine ⟨wrap_i64 (by omega) (by omega), by omega, ?_⟩
      by_cases e2 : x = 49
      · subst e2
        simp [h, h1]
        refine ⟨wrap_i64 (by omega) (by omega), ?_⟩
        rw [if_pos ⟨h7, h8⟩]
        simp [h3, hd]
        refine xcall_pure (c_pneumaticref21_cylinder c s.dropLast hc) ?_
        simp
        refine ⟨.of (by kernel_rfl), ?_⟩
        simp [XEndT, belB, h, hl]
      · have e2' : ¬ (x.toNat : Int) = 49 := fun h => e2 (h6.1 h)
        simp [e2', h1]
        refine ⟨.of (by kernel_rfl), ?_⟩
        simp [XEndT, belB, h, hl, e1, e2]
  · have h1 : ¬ (1 : Int) < s.length := by omega
    simp
    refine XDraw.intro (by kernel_rfl) ?_
    simp [h1]
    refine ⟨.of (by kernel_rfl), ?_⟩
    simp [XEndT, belB, h]

end Go.Am
/- Contracts: the reference of chapter 21: parts, port, pipe, Check. -/
namespace Go.Am
open Go Go.Proofs Go.Pn

theorem owner_bel {c : Circuit} {s : Txt} (hn : ∀ p ∈ c.parts, p.name ≠ []) : (ownerI c s < 0) ↔ belB c s = false := by
  unfold ownerI belB stem cylB
  by_cases h1 : s.getLast? = some 48 ∨ s.getLast? = some 49
  · rw [if_pos h1]
    have h2 : (decide (s.getLast? = some 48) || decide (s.getLast? = some 49)) = true := by simpa using h1
    rw [h2, Bool.and_true]
    cases hf : c.parts.findIdx? fun p => decide (p.name = s.dropLast) with
    | none => simp [hf]
    | some i =>
      obtain ⟨h3, h4, _⟩ := List.findIdx?_eq_some_iff_getElem.1 hf
      have h5 : 1 < s.length := by
        have h6 := hn _ (List.getElem_mem h3)
        have h7 : c.parts[i].name = s.dropLast := by simpa using h4
        rw [h7] at h6
        have : s.dropLast.length ≠ 0 := fun h => h6 (List.length_eq_zero_iff.1 h)
        rw [List.length_dropLast] at this
        omega
      simp only [hf, h5, decide_true, Bool.true_and]
      by_cases h8 : (c.parts[i]?.map (·.kind)) = some 1
      · simp [h8]
      · simp [h8]
  · rw [if_neg h1]
    have h2 : (decide (s.getLast? = some 48) || decide (s.getLast? = some 49)) = false := by simpa using h1
    simp [h2]

theorem names_ne {c : Circuit} (h : firstErr (partAt c) c.parts.length = 0) : ∀ p ∈ c.parts, p.name ≠ [] := by
  intro p hp he
  obtain ⟨j, hj, rfl⟩ := List.getElem_of_mem hp
  have h7 := firstErr_zero h hj
  simp only [partAt, List.getElem?_eq_getElem hj] at h7
  have h9 : wordErr c.parts[j].name = 3 := by rw [he]; rfl
  by_cases h10 : kindErr c.parts[j].kind = 0
  · have h11 : partErr c.parts[j] = 3 := by simp [partErr, h10, h9]
    rw [h11] at h7; simp at h7
  · have h11 : partErr c.parts[j] ≠ 0 := by simp [partErr, h10]
    rw [if_pos h11] at h7; exact h11 h7

theorem kinds_ok {c : Circuit} (h : firstErr (partAt c) c.parts.length = 0) : kindsOk c := by
  intro p hp
  obtain ⟨j, hj, rfl⟩ := List.getElem_of_mem hp
  have h7 := firstErr_zero h hj
  simp only [partAt, List.getElem?_eq_getElem hj] at h7
  have h8 : kindErr c.parts[j].kind = 0 := by
    by_cases h9 : kindErr c.parts[j].kind = 0
    · exact h9
    · exfalso
      have h10 : partErr c.parts[j] ≠ 0 := by simp [partErr, h9]
      rw [if_pos h10] at h7
      exact h10 h7
  exact kindErr_ok.1 h8

theorem plays_iff {k : Nat} {s : Txt} (hk : k < 14) : (playsN k s < 0) ↔ ¬ s ∈ kindPorts k := by
  have h1 : (refPorts k).map namesL = roles k := (by decide : ∀ k, k < 14 → (refPorts k).map namesL = roles k) k hk
  have h2 : ∀ t, (t ∈ (roles k).flatten) ↔ t ∈ kindPorts k := by
    intro t
    rcases (by omega : k = 0 ∨ k = 1 ∨ k = 2 ∨ k = 3 ∨ k = 4 ∨ k = 5 ∨ k = 6 ∨ k = 7 ∨ k = 8 ∨ k = 9 ∨ k = 10 ∨ k = 11 ∨ k = 12 ∨ k = 13) with rfl|rfl|rfl|rfl|rfl|rfl|rfl|rfl|rfl|rfl|rfl|rfl|rfl|rfl <;> simp [roles, kindPorts] <;> grind
  have h3 : (0 ≤ playsN k s) ↔ s ∈ kindPorts k := by
    unfold playsN
    rw [idxI_nonneg, ← h2, ← h1]
    simp only [List.any_eq_true, decide_eq_true_eq, List.mem_flatten, List.mem_map]
    grind
  exact ⟨fun h hm => by have := h3.2 hm; omega, fun h => Int.not_le.1 fun h' => h (h3.1 h')⟩

def partsP (c : Circuit) : Int :=
  if 64 < c.parts.length then 5 else
  if firstErr (partAt c) c.parts.length ≠ 0 then firstErr (partAt c) c.parts.length else firstErr (ownerAt c) c.parts.length

theorem c_pneumaticref21_parts (c : Circuit) (hc : Sized c) : Pure Tryz.prog GL 93 [c.av] (.p (.int .i64 (partsP c))) := by
  refine Pure.of_walk (N := 69) Tryz.func93 rfl rfl rfl (by simp) (by first | (simp; done) | simp [*]) ?_
  simp
  refine xif_split (fun h => ?_) (fun h => ?_)
  · have h' : 64 < c.parts.length := by simp at h; omega
    have hP : partsP c = 5 := by unfold partsP; rw [if_pos h']
    simp [XEndT, hP]
  · have h0 : ¬ 64 < c.parts.length := by simp at h; omega
    simp
    refine XLoop.go [1] [0] 0 [] (fun _ => []) (fun _ (k : Nat) => [(3, .p (.int .i64 k))]) (fun _ _ => []) (fun k => k ≤ c.parts.length ∧ firstErr (partAt c) k = 0) (fun k => c.parts.length - k) 0 ⟨by omega, rfl⟩ ?_ ?_
    · simp
    · rintro k ⟨hk, hp⟩
      simp
      refine xif_split (fun h1 => ?_) (fun h1 => ?_)
      · simp at h1
        obtain ⟨x, e⟩ := get_lt h1
        have hbad : ∀ m : Int, partAt c k = m → m ≠ 0 → partsP c = m := by
          intro m h2 h3
          have h4 : firstErr (partAt c) c.parts.length = m := by rw [firstErr_at hp h1 (by rw [h2]; exact h3), h2]
          unfold partsP
          rw [if_neg h0, h4, if_pos h3]
        have hx : partAt c k = if partErr x ≠ 0 then partErr x else if 0 < k ∧ ¬ Op.bytesLess ((c.parts[k - 1]?.map (·.name)).getD []) x.name = true then 9 else 0 := by simp only [partAt, e]
        simp [h1, e, -getElem?_pos, List.getElem?_cons_zero, List.getElem?_cons_succ]
        refine xcall_pure (c_pneumaticref20_Check x (by have := hc.names x (List.mem_of_getElem? e); omega)) ?_
        simp
        refine xif_split (fun h2 => ?_) (fun h2 => ?_)
        · simp at h2
          have h3 := hbad (partErr x) (by rw [hx, if_pos h2]) h2
          simp [XEndT, h3]
        · simp at h2
          rw [if_neg (by simp [h2])] at hx
          cases k with
          | zero =>
            simp
            refine XDraw.intro (by kernel_rfl) ?_
            simp
            refine ⟨.of (by kernel_rfl), 0 + 1, ⟨by omega, firstErr_next hp (by rw [hx]; simp)⟩, by omega, ?_⟩
            simp
          | succ k =>
            obtain ⟨y, ey⟩ := get_lt (xs := c.parts) (k := k) (by omega)
            have e0 : (0 : Int) < (k : Int) + 1 := by omega
            have e0' : (0 : Int) ≤ (k : Int) + 1 := by omega
            have e1 : (k : Int) + 1 - 1 = k := by omega
            have e2 : k < c.parts.length := by omega
            have e3 : (k : Int) + 1 < c.parts.length := by omega
            have e4 : ((k : Int) + 1).toNat = k + 1 := by omega
            simp
            refine XDraw.intro (by kernel_rfl) ?_
            simp [e0, e0', e1, e2, e3, e4, e, ey, -getElem?_pos, List.getElem?_cons_zero, List.getElem?_cons_succ]
            refine ⟨wrap_i64 (by omega) (by omega), .of (by kernel_rfl), ?_⟩
            have hk1 : k + 1 - 1 = k := by omega
            rw [hk1, ey] at hx
            simp at hx
            refine xif_split (fun h3 => ?_) (fun h3 => ?_)
            · have h5 : Op.bytesLess y.name x.name = false := by rw [bl_le] at h3; simpa using h3
              have h4 := hbad 9 (by rw [hx]; simp [h5]) (by decide)
              simp [XEndT, h4]
            · have h5 : Op.bytesLess y.name x.name = true := by rw [bl_le] at h3; simpa using h3
              simp [h5] at hx
              simp
              refine ⟨wrap_i64 (by omega) (by omega), k + 1 + 1, ⟨by omega, firstErr_next hp hx⟩, by omega, ?_⟩
              simp
      · simp at h1
        have hk2 : k = c.parts.length := by omega
        subst hk2
        have hne := names_ne hp
        simp
        refine XLoop.go [1] [0] 0 [] (fun _ => []) (fun _ (k : Nat) => [(5, .p (.int .i64 k))]) (fun _ _ => []) (fun k => k ≤ c.parts.length ∧ firstErr (ownerAt c) k = 0) (fun k => c.parts.length - k) 0 ⟨by omega, rfl⟩ ?_ ?_
        · simp
        · rintro k ⟨hk, hp2⟩
          simp
          refine xif_split (fun h1 => ?_) (fun h1 => ?_)
          · simp at h1
            obtain ⟨x, e⟩ := get_lt h1
            have hx : ownerAt c k = if x.kind = 6 ∧ ownerI c x.name < 0 then 6 else 0 := by simp only [ownerAt, e]
            simp
            refine XDraw.intro (by kernel_rfl) ?_
            simp [h1, e, -getElem?_pos, List.getElem?_cons_zero, List.getElem?_cons_succ]
            refine xif_split (fun h2 => ?_) (fun h2 => ?_)
            · simp at h2
              simp [h2, h1, e, -getElem?_pos, List.getElem?_cons_zero, List.getElem?_cons_succ]
              refine xcall_pure (c_pneumaticref21_belongs c x.name hc (hc.names x (List.mem_of_getElem? e))) ?_
              simp
              refine ⟨.of (by kernel_rfl), ?_⟩
              refine xif_split (fun h3 => ?_) (fun h3 => ?_)
              · have h3' : belB c x.name = false := by simpa using h3
                rw [if_pos ⟨h2, (owner_bel hne).2 h3'⟩] at hx
                have hP : partsP c = 6 := by unfold partsP; rw [if_neg h0, hp, firstErr_at hp2 h1 (by rw [hx]; decide), hx]; simp
                simp [XEndT, hP]
              · have h3' : ¬ ownerI c x.name < 0 := fun h => by have := (owner_bel hne).1 h; simp [this] at h3
                rw [if_neg (fun h => h3' h.2)] at hx
                simp
                refine ⟨wrap_i64 (by omega) (by omega), k + 1, ⟨by omega, firstErr_next hp2 hx⟩, by omega, ?_⟩
                simp
            · simp at h2
              rw [if_neg (by simp [h2])] at hx
              simp [h2]
              refine ⟨.of (by kernel_rfl), wrap_i64 (by omega) (by omega), k + 1, ⟨by omega, firstErr_next hp2 hx⟩, by omega, ?_⟩
              simp
          · simp at h1
            have hk2 : k = c.parts.length := by omega
            subst hk2
            have hP : partsP c = 0 := by unfold partsP; rw [if_neg h0, hp, hp2]; simp
            simp [XEndT, hP]

theorem c_pneumaticref21_port (c : Circuit) (p : Port) (hk : kindsOk c) : Pure Tryz.prog GL 143 [c.av, p.av] (.tup [.p (.int .i64 (rangeErr c p)), .p (.int .i64 (if rangeErr c p = 0 then nameErr c p else 0))]) := by
  refine Pure.of_walk (N := 28) Tryz.func143 rfl rfl rfl (by simp) (by first | (simp; done) | simp [*]) ?_
  by_cases hb : p.part < 0 ∨ (c.parts.length : Int) ≤ p.part
  · have h2 : rangeErr c p = 2 := if_pos hb
    simp
    repeat' (first | (apply xif_split <;> intro hq <;> (try simp at hq) <;> (try simp [hq])) | (apply xdec_split <;> intro hq <;> (try simp at hq) <;> (try simp [hq])))
    all_goals (try simp [XEndT, h2])
    all_goals omega
  · have h2 : rangeErr c p = 0 := if_neg hb
    have h4 : ¬ p.part < 0 := by omega
    have h4' : 0 ≤ p.part := by omega
    have h5 : ¬ (c.parts.length : Int) ≤ p.part := by omega
    have h5' : p.part < (c.parts.length : Int) := by omega
    obtain ⟨x, e⟩ := get_lt (xs := c.parts) (k := p.part.toNat) (by omega)
    have hx := hk x (List.mem_of_getElem? e)
    have hn : nameErr c p = if p.name ∈ portsOf x then 0 else 6 := by simp only [nameErr, e]
    simp [h4, h5]
    refine XDraw.intro (by kernel_rfl) ?_
    simp [h4', h5', e, -getElem?_pos, List.getElem?_cons_zero, List.getElem?_cons_succ]
    have hk3 : x.kind = (x.kind.toNat : Int) := by omega
    rw [hk3]
    refine xcall_pure (c_pneumaticref20_Plays x.kind.toNat p.name (by omega)) ?_
    simp
    refine ⟨.of (by kernel_rfl), ?_⟩
    have hpl := plays_iff (k := x.kind.toNat) (s := p.name) (by omega)
    refine xif_split (fun h6 => ?_) (fun h6 => ?_)
    · simp at h6
      have h7 : ¬ p.name ∈ portsOf x := hpl.1 h6
      simp [XEndT, h2, hn, h7]
    · simp at h6
      have h7 : p.name ∈ portsOf x := by
        by_cases h8 : p.name ∈ portsOf x
        · exact h8
        · have := hpl.2 h8; omega
      simp [XEndT, h2, hn, h7]

end Go.Am
/- Contracts: the reference of chapter 21: pipe, Check, Find, All, Ports, Has, Limits. -/
namespace Go.Am
open Go Go.Proofs Go.Pn

theorem cmpPort_lt {a b : Port} : (cmpPort a b < 0) ↔ portLt a b = true := by
  unfold cmpPort portLt cmpI
  by_cases h : a.part = b.part
  · simp [orI, h]
    by_cases h2 : Lib.compareBytes a.name b.name = 0
    · have := cmpB_eq.1 h2
      have h3 := (cmpB_eq (a := b.name) (b := b.name)).2 rfl
      simp [this, bl_irrefl, h3]
    · simp [h2, cmpB_lt]
  · by_cases h2 : a.part < b.part
    · simp [orI, h, h2]
    · have h3 : b.part < a.part := by omega
      simp [orI, h, h2, h3]
theorem cmpPort_eq {a b : Port} : cmpPort a b = 0 ↔ a = b := by
  unfold cmpPort cmpI
  by_cases h : a.part = b.part
  · simp [orI, h]
    by_cases h2 : Lib.compareBytes a.name b.name = 0
    · have h3 := cmpB_eq.1 h2
      cases a; cases b
      simp at h h3
      simp [h, h3, cmpB_eq.2]
    · have h3 : a.name ≠ b.name := fun e => h2 (cmpB_eq.2 e)
      have : a ≠ b := fun e => h3 (by rw [e])
      simp [h2, this]
  · have : a ≠ b := fun e => h (by rw [e])
    by_cases h2 : a.part < b.part
    · simp [orI, h2, this]
    · have h3 : b.part < a.part := by omega
      simp [orI, h2, h3, this]
theorem cmpPipe_lt {a b : Pipe} : (cmpPipe a b < 0) ↔ pipeLt a b = true := by
  unfold cmpPipe pipeLt
  by_cases h : a.fr = b.fr
  · have h1 : cmpPort a.fr b.fr = 0 := cmpPort_eq.2 h
    have h0 : cmpPort b.fr b.fr = 0 := cmpPort_eq.2 rfl
    simp only [orI, h, h0, if_true]
    by_cases h2 : cmpPort a.to b.to = 0
    · have h3 := cmpPort_eq.1 h2
      have h4 : ¬ portLt a.to b.to = true := fun h => by have := cmpPort_lt.2 h; omega
      simp [h2, h4]
    · simp [h2, cmpPort_lt]
  · have h1 : cmpPort a.fr b.fr ≠ 0 := fun e => h (cmpPort_eq.1 e)
    simp [orI, h1, h, cmpPort_lt]

theorem range_two {c : Circuit} {a b : Port} : rangeErrs c [a, b] = if rangeErr c a ≠ 0 then rangeErr c a else rangeErr c b := by
  simp [rangeErrs, firstErr, errAt]
theorem name_two {c : Circuit} {a b : Port} : nameErrs c [a, b] = if nameErr c a ≠ 0 then nameErr c a else nameErr c b := by
  simp [nameErrs, firstErr, errAt]
theorem range_is {c : Circuit} {a : Port} : rangeErr c a = 0 ∨ rangeErr c a = 2 := by unfold rangeErr; split <;> simp
theorem name_is {c : Circuit} {a : Port} : nameErr c a = 0 ∨ nameErr c a = 6 := by unfold nameErr; split <;> (try split) <;> simp

theorem c_pneumaticref21_pipe (c : Circuit) (x : Pipe) (hk : kindsOk c) : Pure Tryz.prog GL 94 [c.av, x.av] (.p (.int .i64 (pipeErr c x))) := by
  refine Pure.of_walk (N := 41) Tryz.func94 rfl rfl rfl (by simp) (by first | (simp; done) | simp [*]) ?_
  simp
  refine xcall_pure (c_pneumaticref21_port c x.fr hk) ?_
  simp
  refine xcall_pure (c_pneumaticref21_port c x.to hk) ?_
  have hp : pipeErr c x = if rangeErr c x.fr ≠ 0 ∨ rangeErr c x.to ≠ 0 then 2 else if nameErr c x.fr ≠ 0 ∨ nameErr c x.to ≠ 0 then 6 else if portLt x.fr x.to = true then 0 else 9 := by
    have h1 := range_is (c := c) (a := x.fr)
    have h2 := range_is (c := c) (a := x.to)
    have h3 := name_is (c := c) (a := x.fr)
    have h4 := name_is (c := c) (a := x.to)
    have h5 := cmpPort_lt (a := x.fr) (b := x.to)
    unfold pipeErr
    rw [range_two, name_two]
    grind
  have h1 := range_is (c := c) (a := x.fr)
  have h2 := range_is (c := c) (a := x.to)
  generalize rangeErr c x.fr = r1 at *
  generalize rangeErr c x.to = r2 at *
  generalize nameErr c x.fr = n1 at *
  generalize nameErr c x.to = n2 at *
  rcases h1 with rfl | rfl
  · rcases h2 with rfl | rfl
    · by_cases h3 : n1 = 0
      · by_cases h4 : n2 = 0
        · simp [h3, h4]
          refine xcall_pure (c_pneumaticref21_Before x.fr x.to) ?_
          simp
          cases h5 : portLt x.fr x.to with
          | true => simp [XEndT, hp, h3, h4, h5]
          | false => simp [XEndT, hp, h3, h4, h5]
        · simp [XEndT, h3, h4, hp]
      · simp [XEndT, h3, hp]
    · simp [XEndT, hp]
  · simp [XEndT, hp]

theorem c_pneumaticref21_Check (c : Circuit) (hc : Sized c) : Pure Tryz.prog GL 54 [c.av] (.p (.int .i64 (checkP c))) := by
  refine Pure.of_walk (N := 49) Tryz.func54 rfl rfl rfl (by simp) (by first | (simp; done) | simp [*]) ?_
  simp
  refine xcall_pure (c_pneumaticref21_parts c hc) ?_
  simp
  refine xif_split (fun h => ?_) (fun h => ?_)
  · have hP : checkP c = partsP c := by
      simp at h
      unfold checkP partsP at *
      grind
    simp [XEndT, hP]
  · have hn : partsP c = 0 := by simpa using h
    have h0 : ¬ 64 < c.parts.length := by intro h0; unfold partsP at hn; rw [if_pos h0] at hn; simp at hn
    have hp : firstErr (partAt c) c.parts.length = 0 := by unfold partsP at hn; grind
    have hp2 : firstErr (ownerAt c) c.parts.length = 0 := by unfold partsP at hn; grind
    have hkinds := kinds_ok hp
    simp
    refine xif_split (fun h3 => ?_) (fun h3 => ?_)
    · have h3' : 256 < c.pipes.length := by simp at h3; omega
      have hP : checkP c = 5 := by unfold checkP; rw [if_neg h0, hp, hp2]; simp [h3']
      simp [XEndT, hP]
    · have h3' : ¬ 256 < c.pipes.length := by simp at h3; omega
      simp
      refine XLoop.go [1] [0] 0 [] (fun _ => []) (fun _ (k : Nat) => [(4, .p (.int .i64 k))]) (fun _ _ => []) (fun k => k ≤ c.pipes.length ∧ firstErr (pipeAt c) k = 0) (fun k => c.pipes.length - k) 0 ⟨by omega, rfl⟩ ?_ ?_
      · simp
      · rintro k ⟨hk, hp3⟩
        simp
        refine xif_split (fun h1 => ?_) (fun h1 => ?_)
        · simp at h1
          obtain ⟨x, e⟩ := get_lt h1
          have hbad : ∀ m : Int, pipeAt c k = m → m ≠ 0 → checkP c = m := by
            intro m h2 h3
            have h4 : firstErr (pipeAt c) c.pipes.length = m := by rw [firstErr_at hp3 h1 (by rw [h2]; exact h3), h2]
            unfold checkP
            rw [if_neg h0, hp, hp2, h4]
            simp [h3']
          have hx : ∀ m, pipeErr c x = m → m ≠ 0 → pipeAt c k = m := by
            intro m h2 h3
            simp only [pipeAt, e]
            rw [if_pos (by rw [h2]; exact h3), h2]
          simp
          refine XDraw.intro (by kernel_rfl) ?_
          simp [h1, e, -getElem?_pos, List.getElem?_cons_zero, List.getElem?_cons_succ]
          refine xcall_pure (c_pneumaticref21_pipe c x hkinds) ?_
          simp
          refine ⟨.of (by kernel_rfl), ?_⟩
          refine xif_split (fun h4 => ?_) (fun h4 => ?_)
          · simp at h4
            have h5 := hbad _ (hx _ rfl h4) h4
            simp [XEndT, h5]
          · have hp0 : pipeErr c x = 0 := by simpa using h4
            cases k with
            | zero =>
              simp
              refine XDraw.intro (by kernel_rfl) ?_
              simp
              refine ⟨.of (by kernel_rfl), 0 + 1, ⟨by omega, firstErr_next hp3 (by simp [pipeAt, e, hp0, -getElem?_pos])⟩, by omega, ?_⟩
              simp
            | succ k =>
              obtain ⟨y, ey⟩ := get_lt (xs := c.pipes) (k := k) (by omega)
              have e0 : (0 : Int) < (k : Int) + 1 := by omega
              have e0' : (0 : Int) ≤ (k : Int) + 1 := by omega
              have e1 : (k : Int) + 1 - 1 = k := by omega
              have e2 : k < c.pipes.length := by omega
              have e3 : (k : Int) + 1 < c.pipes.length := by omega
              have e4 : ((k : Int) + 1).toNat = k + 1 := by omega
              have hq : pipeAt c (k + 1) = if 0 ≤ cmpPipe y x then 9 else 0 := by
                have hk1 : k + 1 - 1 = k := by omega
                simp only [pipeAt, e, hp0, hk1, ey]
                simp
              simp
              refine XDraw.intro (by kernel_rfl) ?_
              simp [e0, e0', e1, e2, e3, e4, e, ey, -getElem?_pos, List.getElem?_cons_zero, List.getElem?_cons_succ]
              refine ⟨wrap_i64 (by omega) (by omega), ?_⟩
              refine xcall_pure (c_pneumaticref21_Earlier y x) ?_
              simp
              refine ⟨.of (by kernel_rfl), ?_⟩
              refine xif_split (fun h8 => ?_) (fun h8 => ?_)
              · have h8' : 0 ≤ cmpPipe y x := by
                  have := cmpPipe_lt (a := y) (b := x)
                  simp at h8
                  rw [h8] at this
                  simp at this
                  exact this
                have h9 := hbad 9 (by rw [hq, if_pos h8']) (by decide)
                simp [XEndT, h9]
              · have h8' : cmpPipe y x < 0 := cmpPipe_lt.2 (by simpa using h8)
                simp
                refine ⟨wrap_i64 (by omega) (by omega), k + 1 + 1, ⟨by omega, firstErr_next hp3 (by rw [hq, if_neg (by omega)])⟩, by omega, ?_⟩
                simp
        · simp at h1
          have hk2 : k = c.pipes.length := by omega
          subst hk2
          have hP : checkP c = 0 := by unfold checkP; rw [if_neg h0, hp, hp2, hp3]; simp [h3']
          simp [XEndT, hP]

theorem check_parts {c : Circuit} (h : checkP c = 0) : kindsOk c ∧ c.parts.length ≤ 64 ∧ c.pipes.length ≤ 256 := by
  have h0 : ¬ 64 < c.parts.length := by intro h0; unfold checkP at h; rw [if_pos h0] at h; simp at h
  have hp : firstErr (partAt c) c.parts.length = 0 := by unfold checkP at h; grind
  have hp2 : ¬ 256 < c.pipes.length := by intro h1; unfold checkP at h; grind
  exact ⟨kinds_ok hp, by omega, by omega⟩

end Go.Am
/- Contracts: the reference of chapter 21: All, Ports, Has, Which, given, Same, SameNets; the program's Ports. -/
namespace Go.Am
open Go Go.Proofs Go.Pn

theorem allN_kind {k : Nat} (h : k < 14) : allN k = kindPorts k := (by decide : ∀ k, k < 14 → allN k = kindPorts k) k h

theorem c_circuit_Ports (c : Circuit) (hc : Sized c) : Pure Tryz.prog GL 89 [c.av] (.tup [.p (.lst 2 ((if checkP c ≠ 0 then [] else allP c).map Port.enc)), .p (.int .i64 (checkP c))]) := by
  refine Pure.of_walk (N := 12) Tryz.func89 rfl rfl rfl (by simp) (by first | (simp; done) | simp [*]) ?_
  simp
  refine xcall_pure (c_circuit_Check c hc) ?_
  by_cases h : checkP c = 0
  · simp [h]
    refine xcall_pure (c_circuit_all c (check_parts h).1 (by have := (check_parts h).2.1; omega)) ?_
    simp [XEndT, h]
  · simp [h, XEndT]

@[simp] theorem ports_row {l : List Port} : Ports.enc l = [.lst 2 (l.map Port.enc)] := rfl

end Go.Am
/- The plain law: nets of a circuit as the reference finds them. -/
namespace Go.Am
open Go Go.Proofs Go.Pn

def arStep (a : List Port × Bool) (x : Pipe) : List Port × Bool :=
  let a := if x.fr ∈ a.1 ∧ ¬ x.to ∈ a.1 then (a.1 ++ [x.to], true) else a
  if x.to ∈ a.1 ∧ ¬ x.fr ∈ a.1 then (a.1 ++ [x.fr], true) else a
def arRound (c : Circuit) (l : List Port) : List Port × Bool := c.pipes.foldl arStep (l, false)
def arIter (c : Circuit) (l : List Port) : Nat → List Port
  | 0 => l
  | n + 1 => (arRound c (arIter c l n)).1
def closure (c : Circuit) (p : Port) : List Port := arIter c [p] (2 * c.pipes.length + 2)
def around (c : Circuit) (p : Port) : List Port := (allP c).filter fun q => decide (q ∈ closure c p)

def endsOf (c : Circuit) : List Port := c.pipes.flatMap fun x => [x.fr, x.to]

theorem arStep_keep {a : List Port × Bool} {x : Pipe} : ∃ e, (arStep a x).1 = a.1 ++ e ∧ (∀ q ∈ e, q = x.fr ∨ q = x.to) ∧ (a.1.Nodup → (a.1 ++ e).Nodup) ∧ ((arStep a x).2 = false → e = [] ∧ a.2 = false) ∧ ((arStep a x).2 = true → a.2 = true ∨ e ≠ []) ∧ (a.2 = true → (arStep a x).2 = true) := by
  obtain ⟨l, m⟩ := a
  unfold arStep
  by_cases h1 : x.fr ∈ l ∧ ¬ x.to ∈ l
  · simp only [h1, not_false_eq_true, and_self, if_true]
    have h2 : ¬ (x.to ∈ l ++ [x.to] ∧ ¬ x.fr ∈ l ++ [x.to]) := fun h => h.2 (by simp [h1.1])
    rw [if_neg h2]
    refine ⟨[x.to], rfl, by simp, fun hn => ?_, by simp, by simp, by simp⟩
    rw [List.nodup_append]
    exact ⟨hn, by simp, fun a ha b hb => by simp at hb; subst hb; rintro rfl; exact h1.2 ha⟩
  · rw [if_neg h1]
    by_cases h2 : x.to ∈ l ∧ ¬ x.fr ∈ l
    · rw [if_pos h2]
      refine ⟨[x.fr], rfl, by simp, fun hn => ?_, by simp, by simp, by simp⟩
      rw [List.nodup_append]
      exact ⟨hn, by simp, fun a ha b hb => by simp at hb; subst hb; rintro rfl; exact h2.2 ha⟩
    · rw [if_neg h2]
      exact ⟨[], by simp, by simp, by simp, by simp, by simp, by simp⟩

theorem arFold_keep : ∀ {ps : List Pipe} {a : List Port × Bool}, ∃ e, (ps.foldl arStep a).1 = a.1 ++ e ∧ (∀ q ∈ e, q ∈ ps.flatMap fun x => [x.fr, x.to]) ∧ (a.1.Nodup → (a.1 ++ e).Nodup) ∧ ((ps.foldl arStep a).2 = false → e = [] ∧ a.2 = false) ∧ ((ps.foldl arStep a).2 = true → a.2 = true ∨ e ≠ []) ∧ (a.2 = true → (ps.foldl arStep a).2 = true)
  | [], a => ⟨[], by simp, by simp, by simp, by simp, by simp, by simp⟩
  | x :: ps, a => by
    obtain ⟨e1, h1, h2, h3, h4, h5, h6⟩ := arStep_keep (a := a) (x := x)
    obtain ⟨e2, k1, k2, k3, k4, k5, k6⟩ := arFold_keep (ps := ps) (a := arStep a x)
    refine ⟨e1 ++ e2, by rw [List.foldl_cons, k1, h1, List.append_assoc], fun q hq => ?_, fun hn => ?_, fun h => ?_, fun h => ?_, fun h => ?_⟩
    · rcases List.mem_append.1 hq with hq | hq
      · have := h2 q hq; simp; grind
      · have := k2 q hq; simp at this ⊢; grind
    · rw [← List.append_assoc, ← h1]; exact k3 (by rw [h1]; exact h3 hn)
    · obtain ⟨r1, r2⟩ := k4 h
      obtain ⟨r3, r4⟩ := h4 r2
      exact ⟨by rw [r1, r3]; rfl, r4⟩
    · rcases k5 h with r | r
      · rcases h5 r with r | r
        · exact .inl r
        · exact .inr (by simp [r])
      · exact .inr (by simp [r])
    · exact k6 (h6 h)

theorem ends_len {c : Circuit} : (endsOf c).length = 2 * c.pipes.length := by
  unfold endsOf
  induction c.pipes with
  | nil => rfl
  | cons x xs ih => simp [List.flatMap_cons, ih]; omega

theorem nodup_le {α : Type} [DecidableEq α] : ∀ {l m : List α}, l.Nodup → (∀ x ∈ l, x ∈ m) → l.length ≤ m.length
  | [], m, _, _ => by simp
  | x :: l, m, hn, h => by
    have h1 := List.nodup_cons.1 hn
    have h2 := nodup_le (l := l) (m := m.erase x) h1.2 fun y hy => (List.mem_erase_of_ne (by rintro rfl; exact h1.1 hy)).2 (h y (by simp [hy]))
    have h3 := List.length_erase_of_mem (h x (by simp))
    have h4 := List.length_pos_of_mem (h x (by simp))
    simp only [List.length_cons]
    omega

structure ArInv (c : Circuit) (p : Port) (j : Nat) (l : List Port) : Prop where
  it : l = arIter c [p] j
  nodup : l.Nodup
  sub : ∀ q ∈ l, q ∈ p :: endsOf c
theorem ArInv.le {c : Circuit} {p : Port} {j : Nat} {l : List Port} (h : ArInv c p j l) : l.length ≤ 2 * c.pipes.length + 1 := by
  have := nodup_le h.nodup h.sub
  simp [ends_len] at this
  exact this
theorem ArInv.next {c : Circuit} {p : Port} {j : Nat} {l : List Port} (h : ArInv c p j l) : ArInv c p (j + 1) (arRound c l).1 ∧ ((arRound c l).2 = true → l.length < (arRound c l).1.length) ∧ ((arRound c l).2 = false → (arRound c l).1 = l) := by
  obtain ⟨e, h1, h2, h3, h4, h5, _⟩ := arFold_keep (ps := c.pipes) (a := (l, false))
  have h1' : (arRound c l).1 = l ++ e := h1
  refine ⟨⟨by rw [arIter, ← h.it], by rw [h1']; exact h3 h.nodup, fun q hq => ?_⟩, fun hm => ?_, fun hm => ?_⟩
  · rw [h1'] at hq
    rcases List.mem_append.1 hq with hq | hq
    · exact h.sub q hq
    · exact List.mem_cons_of_mem _ (h2 q hq)
  · rw [h1']
    rcases h5 hm with r | r
    · cases r
    · have := List.length_pos_iff.2 r
      simp; omega
  · rw [h1', (h4 hm).1]; simp

theorem arIter_stable {c : Circuit} {l : List Port} {j : Nat} (h : (arRound c (arIter c l j)).1 = arIter c l j) : ∀ m, j ≤ m → arIter c l m = arIter c l j := by
  intro m hm
  obtain ⟨d, rfl⟩ := Nat.exists_eq_add_of_le hm
  induction d with
  | zero => rfl
  | succ d ih => rw [← Nat.add_assoc, arIter, ih (by omega), h]

end Go.Am
