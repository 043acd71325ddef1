/-
  THE DRILLS' LAID VARIABLE: what the card's tie tells of tool.names, as a fact that every later world keeps, and the contract of tool.KindName under it.
-/
import Derived.Test.YteiifpiainmgkaaDoorEvM
import Derived.Test.YteiifpiainmgkaaDoorRows
import Derived.ProofKit
import Derived.WalkKit
import Derived.WalkSpells
import Derived.LaidLaws
import Derived.WideKeyElems2
namespace Go.Ev
open Go Go.Proofs Go.RowKit
set_option linter.unusedSimpArgs false
set_option linter.unusedSectionVars false
set_option linter.unusedVariables false

/-- The names of the kinds of tools. -/
def kindText (k : Int) : List UInt8 :=
  bif k == 1 then [109, 105, 108, 108] else bif k == 2 then [100, 114, 105, 108, 108] else bif k == 3 then [99, 104, 97, 109, 102, 101, 114] else bif k == 4 then [112, 114, 111, 98, 101] else []

def kindNames : List (Int × List UInt8) := [(1, [109, 105, 108, 108]), (2, [100, 114, 105, 108, 108]), (3, [99, 104, 97, 109, 102, 101, 114]), (4, [112, 114, 111, 98, 101])]

def Jd (w : World) : Prop := ∃ b es clock, w.cell? ⟨0, 0, none⟩ = some (.map (some b)) ∧ w.heap[b]? = some (.map es clock) ∧
  ∀ k : Int, (Instr.findNow (.int .i64) (.int .i64 k) es.toList 0 = some none ∧ kindText k = []) ∨
    ∃ j s, Instr.findNow (.int .i64) (.int .i64 k) es.toList 0 = some (some (j, .string s)) ∧ s.data.toList = kindText k

theorem Jd_keeps : Keeps Jd := by
  rintro w w' ⟨b, es, clock, h1, h2, h3⟩ hB
  have hb : b < w.heap.size := (Array.getElem?_eq_some_iff.1 h2).1
  have h0 : 0 < w.heap.size := by omega
  refine ⟨b, es, clock, ?_, by rw [hB.block b hb]; exact h2, h3⟩
  rw [← h1]
  simp only [World.cell?, hB.block 0 h0]

theorem findNow_of {k : Int} : ∀ (es : List MapEntry) (i : Nat), (∀ e ∈ es, ∃ p ∈ kindNames, e.key = .int .i64 p.1 ∧ ∃ s, e.val = .string s ∧ s.data.toList = p.2) →
    (Instr.findNow (.int .i64) (.int .i64 k) es i = some none ∧ ∀ e ∈ es, e.key ≠ .int .i64 k) ∨
    ∃ j s, Instr.findNow (.int .i64) (.int .i64 k) es i = some (some (j, .string s)) ∧ ∃ p ∈ kindNames, p.1 = k ∧ s.data.toList = p.2
  | [], i, _ => .inl ⟨rfl, by simp⟩
  | e :: r, i, h => by
    obtain ⟨p, hp, hk, s, hv, hs⟩ := h e (by simp)
    by_cases hkp : k = p.1
    · refine .inr ⟨i, s, ?_, p, hp, hkp.symm, hs⟩
      simp [Instr.findNow, Instr.sameNow, hk, hkp, hv]
    · rcases findNow_of (k := k) r (i + 1) (fun e he => h e (by simp [he])) with ⟨h1, h2⟩ | ⟨j, s', h1, h2⟩
      · refine .inl ⟨?_, ?_⟩
        · have hb : (k == p.1) = false := by simpa using hkp
          simp [Instr.findNow, Instr.sameNow, hk, hb, h1]
        · intro e' he'
          rcases List.mem_cons.1 he' with rfl | he'
          · rw [hk]; simp; exact fun e => hkp e.symm
          · exact h2 e' he'
      · have hb : (k == p.1) = false := by simpa using hkp
        exact .inr ⟨j, s', by simp [Instr.findNow, Instr.sameNow, hk, hb, h1], h2⟩

theorem kindText_of {p : Int × List UInt8} (hp : p ∈ kindNames) : kindText p.1 = p.2 := by
  simp only [kindNames, List.mem_cons, List.not_mem_nil, or_false] at hp
  rcases hp with rfl | rfl | rfl | rfl <;> rfl

theorem kindText_not {k : Int} (h : ∀ p ∈ kindNames, p.1 ≠ k) : kindText k = [] := by
  have h1 := h (1, [109, 105, 108, 108]) (by simp [kindNames])
  have h2 := h (2, [100, 114, 105, 108, 108]) (by simp [kindNames])
  have h3 := h (3, [99, 104, 97, 109, 102, 101, 114]) (by simp [kindNames])
  have h4 := h (4, [112, 114, 111, 98, 101]) (by simp [kindNames])
  simp only at h1 h2 h3 h4
  unfold kindText
  rw [show (k == 1) = false by simpa using fun e => h1 e.symm, show (k == 2) = false by simpa using fun e => h2 e.symm, show (k == 3) = false by simpa using fun e => h3 e.symm, show (k == 4) = false by simpa using fun e => h4 e.symm]
  rfl

theorem mapM_mem {α β : Type} {f : α → Option β} : ∀ {l : List α} {r : List β}, l.mapM f = some r → (∀ x ∈ l, ∃ y ∈ r, f x = some y) ∧ ∀ y ∈ r, ∃ x ∈ l, f x = some y
  | [], r, h => by
    simp at h; subst h; simp
  | a :: l, r, h => by
    rw [List.mapM_cons] at h
    cases ha : f a with
    | none => simp [ha] at h
    | some y =>
      cases hl : l.mapM f with
      | none => simp [ha, hl] at h
      | some ys =>
        simp [ha, hl] at h
        subst h
        obtain ⟨p, q⟩ := mapM_mem hl
        refine ⟨fun x hx => ?_, fun z hz => ?_⟩
        · rcases List.mem_cons.1 hx with rfl | hx
          · exact ⟨y, by simp, ha⟩
          · obtain ⟨z, hz, e⟩ := p x hx
            exact ⟨z, by simp [hz], e⟩
        · rcases List.mem_cons.1 hz with rfl | hz
          · exact ⟨a, by simp, ha⟩
          · obtain ⟨x, hx, e⟩ := q z hz
            exact ⟨x, by simp [hx], e⟩

theorem keyOf_int {P : Program} {k : TypeId} (hk : P.underlying k = some (.int .i64)) {v : Value} {l : Lit} (h : keyOf P k v = some l) : ∃ n, v = .int .i64 n ∧ l = .int .i64 n := by
  have e : keyOf P k v = mapKey P k v := by unfold keyOf; rw [hk]
  rw [e] at h
  cases v <;> simp [mapKey, hk] at h
  obtain ⟨⟨rfl, _⟩, h⟩ := h
  exact ⟨_, rfl, h.symm⟩

theorem jd_of_laid {w : World} (h : laidMet Tryd.prog [("swarf/tool.names", YteiifpiainmgkaaDoor.Rows.laid_swarf_tool_names)] w) : Jd w := by
  obtain ⟨ps, ⟨g, t, cs, fuel, p, q, hg, ht, hv, htr, _, _⟩, _, _⟩ := h
  obtain rfl : 0 = g := Option.some.inj ((show Tryd.prog.globalNamed "swarf/tool.names" = some 0 by kernel_rfl).symm.trans hg)
  obtain rfl : 71 = t := Option.some.inj ((show (Tryd.prog.globals[0]?).map (·.type) = some 71 by kernel_rfl).symm.trans ht)
  have hcell := World.var?_cell hg hv 0
  rcases WideElems.open_map Tryd.underlying71 htr with ⟨_, hx⟩ | ⟨b, es, clock, n, _, hcs, hb, _, F, hx⟩
  · simp [YteiifpiainmgkaaDoor.Rows.laid_swarf_tool_names] at hx
  · have hsort := (Prod.mk.injEq .. ▸ hx : _ ∧ _).1
    simp only [YteiifpiainmgkaaDoor.Rows.laid_swarf_tool_names, DataW.map.injEq] at hsort
    have hperm := WideShapes.sorted_perm (es.toList.map (WideElems.rg Tryd.prog 3 (WideElems.elemAt (fun _ => ()) Tryd.prog w 0 (fun _ => true) false n 9)))
    rw [← hsort] at hperm
    have hmem : ∀ x ∈ es.toList, ∃ y, WideElems.rd Tryd.prog 3 (WideElems.elemAt (fun _ => ()) Tryd.prog w 0 (fun _ => true) false n 9) x = some y ∧
        ∃ p ∈ kindNames, y = (.int .i64 p.1, .lit (.string p.2)) := fun x hx => by
      obtain ⟨y, hy⟩ := F.reads x hx
      refine ⟨y, hy, ?_⟩
      have : y ∈ es.toList.map (WideElems.rg Tryd.prog 3 (WideElems.elemAt (fun _ => ()) Tryd.prog w 0 (fun _ => true) false n 9)) := List.mem_map.2 ⟨x, hx, WideElems.rg_of hy⟩
      have := hperm.symm.subset this
      simp only [List.mem_cons, List.not_mem_nil, or_false] at this
      rcases this with rfl | rfl | rfl | rfl
      · exact ⟨(1, _), by simp [kindNames], rfl⟩
      · exact ⟨(2, _), by simp [kindNames], rfl⟩
      · exact ⟨(3, _), by simp [kindNames], rfl⟩
      · exact ⟨(4, _), by simp [kindNames], rfl⟩
    have hall : ∀ e ∈ es.toList, ∃ p ∈ kindNames, e.key = .int .i64 p.1 ∧ ∃ s, e.val = .string s ∧ s.data.toList = p.2 := fun e he => by
      obtain ⟨y, hy, p, hp, rfl⟩ := hmem e he
      refine ⟨p, hp, ?_, ?_⟩
      · obtain ⟨m, h1, h2⟩ := keyOf_int Tryd.underlying3 (WideElems.rd_key hy)
        cases h2
        exact h1
      · obtain ⟨z, hz, h2⟩ := WideElems.rd_val hy
        unfold WideElems.elemAt at hz
        split at hz
        · rename_i hf
          cases n with
          | zero => simp [DataW.trod] at hz
          | succ n =>
            cases hv : e.val <;> rw [hv] at hz hf <;> simp [DataW.trod, Tryd.underlying9, Value.cells, Value.formed] at hz hf
            obtain ⟨_, rfl⟩ := hz
            simp only [DataW.lit.injEq, Lit.string.injEq] at h2
            exact ⟨_, rfl, h2.symm⟩
        · cases hz
    have hcell' : w.cell? ⟨0, 0, none⟩ = some (.map (some b)) := by
      rw [hcell, ← Array.getElem?_toList, hcs]; rfl
    refine ⟨b, es, clock, hcell', hb, fun k => ?_⟩
    rcases findNow_of (k := k) es.toList 0 hall with ⟨h1, h2⟩ | ⟨j, s, h1, p, hp, rfl, hs⟩
    · refine .inl ⟨h1, kindText_not fun p hp hpk => ?_⟩
      have : ((.int .i64 p.1, .lit (.string p.2)) : Lit × DataW Unit) ∈ es.toList.map (WideElems.rg Tryd.prog 3 (WideElems.elemAt (fun _ => ()) Tryd.prog w 0 (fun _ => true) false n 9)) := by
        refine hperm.subset ?_
        simp only [kindNames, List.mem_cons, List.not_mem_nil, or_false] at hp
        rcases hp with rfl | rfl | rfl | rfl <;> simp
      obtain ⟨x, hx, hxe⟩ := List.mem_map.1 this
      obtain ⟨y, hy, q, hq, rfl⟩ := hmem x hx
      rw [WideElems.rg_of hy] at hxe
      simp only [Prod.mk.injEq, Lit.int.injEq, true_and] at hxe
      obtain ⟨m, h3, h4⟩ := keyOf_int Tryd.underlying3 (WideElems.rd_key hy)
      cases h4
      exact h2 x hx (by rw [h3, hxe.1, hpk])
    · exact .inr ⟨j, s, h1, by rw [kindText_of hp, hs]⟩

/-! ## tool.KindName -/
theorem kind_look {w : World} {b : Nat} {es : Array MapEntry} {clock : Nat} (hb : w.heap[b]? = some (.map es clock)) {k : Int} {r : Option (Nat × Value)}
    (h : Instr.findNow (.int .i64) (.int .i64 k) es.toList 0 = some r) :
    (Instr.lookup 71 (.map (some b)) (.int .i64 k) false).run Tryd.prog w = .ok (match r with | some p => p.2 | none => .string ⟨#[]⟩) w := by
  have hz : (zeroValue 9).run Tryd.prog w = .ok (.string ⟨#[]⟩) w := by kernel_rfl
  have hc := MapKept.run_checkKey (P := Tryd.prog) (w := w) (kt := 3) (d := .int .i64) (k := .int .i64 k) Tryd.underlying3 (by simp [MapKept.IsKey]) es.isEmpty 9999
  have hf := MapKept.run_findKey (P := Tryd.prog) (w := w) (kt := 3) Tryd.underlying3 h
  cases r with
  | none => simp [Instr.lookup, run_underlying Tryd.underlying71, MapKept.run_getObj_map hb, hc, hf, hz, Result.andThen]
  | some p => simp [Instr.lookup, run_underlying Tryd.underlying71, MapKept.run_getObj_map hb, hc, hf, hz, Result.andThen]

theorem kind_walk (k : Int) (s : ByteArray) (b : Nat) (w : World) (hg : w.cell? ⟨0, 0, none⟩ = some (.map (some b))) (hrun : (Instr.lookup 71 (.map (some b)) (.int .i64 k) false).run Tryd.prog w = .ok (.string s) w) :
    Calls Tryd.prog 38 #[.int .i64 k] w fun e w' => e = .returned (.string s) ∧ w' = w := by
  go_enter Tryd.func38, Tryd.ntmps38
  go_wp2
  go_ret
  exact ⟨rfl, rfl⟩

def dg38 (x : DenA [.v (.int .i64)]) : Option (DenR [.str]) := some ⟨(kindText x.1).toArray⟩
noncomputable def dcon38 : Con := ⟨38, [.v (.int .i64)], [.str], false, dg38, none⟩

theorem dsound38 : SoundC Tryd.prog Jd dcon38 := by
  refine ⟨⟨Tryd.f38, Tryd.func38, by kernel_rfl, by kernel_rfl⟩, fun _ w c0 vs x r hJ hx ha => ?_, fun _ _ _ h => absurd h (by simp [dcon38])⟩
  obtain ⟨v, vs', rfl, hv, hn⟩ := ha
  simp only [ArgsRep] at hn
  subst hn
  obtain ⟨k, _⟩ := x
  obtain rfl : v = .int .i64 k := repV_int hv
  obtain ⟨b, es, clock, hg, hb, hl⟩ := hJ
  obtain rfl : (⟨(kindText k).toArray⟩ : ByteArray) = r := Option.some.inj hx
  have hwalk : Calls Tryd.prog 38 #[.int .i64 k] w fun e w' => e = .returned (.string ⟨(kindText k).toArray⟩) ∧ w' = w := by
    rcases hl k with ⟨h1, h2⟩ | ⟨j, s, h1, h2⟩
    · rw [h2]
      exact kind_walk k _ b w hg (kind_look hb h1)
    · have : s = ⟨(kindText k).toArray⟩ := by
        rw [← h2]
      rw [← this]
      exact kind_walk k s b w hg (kind_look hb h1)
  refine hwalk.mono fun e w' he => ?_
  obtain ⟨rfl, rfl⟩ := he
  exact ⟨_, oldCol c0, rfl, Below.refl _ _, fun _ _ _ => rfl, ⟨_, rfl, .inr ⟨rfl, rfl⟩⟩, fun h => by simp [Ty.isSl] at h⟩
end Go.Ev
