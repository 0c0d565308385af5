/-
  binnacle/binnaclelaw26.JsonAny returns true for every input, and each argument reads afterwards as it read before. No condition.
-/
import Derived.Lay
import Derived.LaidMore
import Derived.SevenTiedAt
import Derived.Test.YtnehmcpkeamghaaDoorTie
import Derived.Test.YtnehmcpkeamghaaDoorCards
import Derived.Test.YtnehmcpkeamghaaDoorG9
namespace Go.Proofs.YtnehmcpkeamghaaDoor.jsonAny
open Sha Js
open Go.ChangeShapes Go.WideShapes Go.ChangeAt Go.RowKit
open Go.ChangeMaps (open_string shut_string)
set_option linter.unusedVariables false

theorem row_bsJ {w : World} {a : Option Addr} {n c : Nat} {zs : List Int} (h : IsRow .u8 w a n c zs) (hs : ∀ x, a = some x → x.spot = none) : ∃ l : Sha.Bs, Sx.BsAt w [] a n c l := by
  obtain ⟨z, l, B, f, hI⟩ := Sx.open_b8 h hs
  rcases h with ⟨rfl, rfl, rfl, rfl⟩ | ⟨x, rfl, hl, hm, hz, hc, hw⟩
  · exact ⟨[], Sx.SlAt.nul⟩
  · obtain ⟨B, f, spot⟩ := x
    obtain rfl : spot = none := hs _ rfl
    have hcap := hI.cap
    refine ⟨(zs.take n).map (BitVec.ofInt 8), by simp; omega, hl, by unfold maxLen at hcap; omega, (fun e => by cases e), fun x e h0 => ?_⟩
    injection e with e
    subst e
    have hcell : ∀ {a : Addr} {v : Value}, w.cell? a = some v → a.block < w.heap.size := fun {a v} h => by
      unfold World.cell? at h
      rcases Nat.lt_or_ge a.block w.heap.size with hb | hb
      · exact hb
      · rw [Array.getElem?_eq_none hb] at h; cases h
    refine ⟨rfl, ?_, List.not_mem_nil, fun j y e => ?_⟩
    · have := hcell (hc 0 (by omega))
      simpa [Addr.add] using this
    · have hj : j < n := by
        have := (List.getElem?_eq_some_iff.1 e).1
        simp at this; omega
      have hjz : j < zs.length := by omega
      have ha : (⟨B, f, none⟩ : Addr).add j = ⟨B, f + j, none⟩ := by unfold Addr.add; simp
      have hc1 := hc j (by omega)
      rw [ha] at hc1
      refine ⟨_, hc1, ?_⟩
      rw [List.getElem?_map, List.getElem?_map, List.getElem?_take, if_pos hj, List.getElem?_eq_getElem hjz] at e
      simp only [Option.map_some, Option.some.injEq] at e
      subst e
      show Value.int .u8 _ = Value.int .u8 _
      congr 1
      have h3 : zs.getD j 0 = zs[j] := by rw [List.getD_eq_getElem?_getD, List.getElem?_eq_getElem hjz]; rfl
      rw [h3]
      exact Sx.wf_w8 (hw _ (List.getElem_mem _))

theorem walk (s0 : ByteArray) (a1 : Option Addr) (len1 cap1 : Nat) (l1 : Sha.Bs) (w : World) (hT : Sx.Tabs w []) (hs : s0.size ≤ 9223372036854775807) (w1 : Sx.BsAt w [] a1 len1 cap1 l1) :
    Calls Tryd.prog 5 #[.string s0, .slice a1 len1 cap1] w fun e w' => e = .returned (.bool true) ∧ Below w.heap.size w w' := by
  obtain ⟨s, rfl⟩ : ∃ s : Sha.Bs, s0 = ⟨(U8 s).toArray⟩ := ⟨s0.data.toList.map UInt8.toBitVec, by
    apply ByteArray.ext
    show s0.data = (U8 (s0.data.toList.map UInt8.toBitVec)).toArray
    unfold U8
    rw [List.map_map]
    have : (UInt8.ofBitVec ∘ UInt8.toBitVec) = (id : UInt8 → UInt8) := rfl
    rw [this, List.map_id]⟩
  have hl : s.length ≤ 9223372036854775807 := by
    have e : (⟨(U8 s).toArray⟩ : ByteArray).size = s.length := by show (U8 s).toArray.size = _; rw [List.size_toArray, U8_len]
    rw [e] at hs; exact hs
  exact ((Sx.fn_jany hT hl w1).mono fun y hs ⟨_, _, _, h, _⟩ => h).lawJ (Sx.isAs_cons rfl (Sx.isAs_cons rfl (Sx.isAs_nil _)))

set_option maxRecDepth 100000 in
theorem lifted (os : Os) (started : os.Started) (H : Type) (enc : TypeId × Value → H) :
    ReturnsInHanded {} Tryd.checked os 5 .any (fun w args => (Rows.jsonAnySpec.pre enc Tryd.prog Tryd.f5 Rows.jsonAnyRow.domain false w args ∧ laidMetH Tryd.prog Rows.jsonAnyRow.laid w) ∧ sizedMet enc Tryd.prog Tryd.f5 (OpenSpec.ofChange Rows.jsonAnySpec) false w args)
      (Rows.jsonAnySpec.post enc Tryd.prog Tryd.f5 false true false false) := by
  refine returnsInHanded_of_change_and (C := Tryd.checked) (X := fun w _ => laidMetH Tryd.prog Rows.jsonAnyRow.laid w) (fun _ _ _ hh h => h.of_heap hh) own started (by kernel_rfl) Tryd.func5
    (ChangeSpec.witness_shaped (enc := enc) (C := Tryd.checked) (os := os) (X := fun w _ => laidMetH Tryd.prog Rows.jsonAnyRow.laid w) false (World.laidAll Tryd.prog os Rows.jsonAnyRow.laid) #[.string ⟨#[]⟩, .slice none 0 0] 8 (World.laidAll_os _ _ _)
      (World.shaped_of_ZipB (by kernel_rfl) (by kernel_rfl)) (by kernel_rfl) (by kernel_rfl) (by kernel_rfl)
      (by rw [MakeChecks.laidMetH_plain _ _ _ (by kernel_rfl)]; exact laidMet_laidAll _ (by kernel_rfl) (by kernel_rfl))) ?_
  intro W base args ds gs before hval0 hW _ _ hL _
  have hval : ∀ (j : Nat) t v, Tryd.f5.params[j]? = some t → args[j]? = some v → Value.okWide Tryd.prog W .any base t v := hval0
  have hW' := hW
  obtain ⟨p, q, hA0, hV, rfl, hfz, hnd⟩ := hW
  have hA : DataW.TrodAll enc Tryd.prog W 0 (fun _ => true) true Tryd.f5.params.toList args.toList ds p := hA0
  rw [Tryd.params5] at hA hval
  obtain ⟨v0, vs0, d0, ds0, p0, q0, hargs, rfl, rfl, h0, r0⟩ := trodAll_cons hA
  obtain ⟨v1, vs1, d1, ds1, p1, q1, rfl, rfl, rfl, h1, r1⟩ := trodAll_cons r0
  obtain ⟨rfl, rfl, rfl⟩ := trodAll_nil r1
  obtain rfl : args = #[v0, v1] := by cases args; simp_all
  obtain ⟨rfl, rfl⟩ := trodVars_none hV
  obtain ⟨s0, rfl, rfl, rfl, w0⟩ := open_string Tryd.underlying9 (hval 0 9 v0 rfl rfl) h0
  obtain ⟨a1, len1, cap1, rfl⟩ := okWide_slice Tryd.underlying25 (hval 1 25 v1 rfl rfl)
  have k1 := h1
  have lt1 : ∀ x ∈ p1, x.block < W.heap.size := by obtain ⟨m, hm⟩ := k1; exact DataW.trod_lt m _ _ _ hm
  obtain ⟨l1, w1⟩ : ∃ l, Sx.BsAt W [] a1 len1 cap1 l := by
    refine (fun h => (h : ∃ zs, IsRow .u8 W a1 len1 cap1 zs).elim fun zs hz => row_bsJ hz (Sx.okWide_spot Tryd.underlying25 (hval 1 25 _ rfl rfl))) ?_
    obtain ⟨fuel, hf⟩ := h1
    rcases open_ints Tryd.underlying25 Tryd.underlying5 (by kernel_rfl) hf with ⟨hcs, _⟩ | ⟨x, l, c, zs, hcs, _, hl, hm, hz, _, hcell, hwz⟩
    · simp [Value.cells] at hcs
      obtain ⟨rfl, rfl, rfl⟩ := hcs
      exact ⟨[], .inl ⟨rfl, rfl, rfl, rfl⟩⟩
    · simp [Value.cells] at hcs
      obtain ⟨rfl, rfl, rfl⟩ := hcs
      exact ⟨zs, .inr ⟨_, rfl, hl, hm, by simpa using hz, hcell, hwz⟩⟩
  clear hA0 hval0
  refine (walk s0 a1 len1 cap1 l1 W (Sx.tabs_of_laid hL) (by unfold maxLen at w0; omega) w1).mono fun e W' ⟨he, bel⟩ => ?_
  subst he
  exact ⟨_, rfl, _, _, _, [], _, [], hW', trodAll_mk1 (shut_bool Tryd.underlying4 _), (trodAll_cons_mk (shut_string Tryd.underlying9 w0) (trodAll_cons_mk (Below.trod laidOut (by kernel_rfl) (of_decide_eq_true (by kernel_rfl)) k1 bel lt1) trodAll_mk0)), rfl, bel.frame _, fun h => by cases h⟩

theorem over : Rows.jsonAnyRow.holds Tryd.pinned (OpenSpec.ofChange Rows.jsonAnySpec) :=
  OpenClaim.holds_of_wide 5 Tryd.f5 rfl rfl rfl rfl rfl rfl rfl ⟨rfl, rfl, rfl, rfl, rfl⟩ rfl rfl rfl rfl rfl (by kernel_rfl) Tryd.func5 (by kernel_rfl)
    (of_decide_eq_true (by kernel_rfl)) (by unfold Func.isWrapper; first | (rw [if_pos (by decide +kernel)]; kernel_rfl) | (rw [if_neg (by decide +kernel)]; exact ⟨rfl, rfl⟩))
    (fun os started H enc _ => lifted os started H enc)

/-- THE STATEMENT -/
theorem proved : Rows.JsonAnyCardSaid :=
  Claim7.holds_tied_plain_at .later [] [.data, .data, .data, .data, .pinned] true (true, "2f2b7db2177223d0d2ef7eda3a20b344ff21f018efd14127c9e59ea153da7048") false
    over (fun _ h => by cases h) (by kernel_rfl) (fun _ h => by cases h) jsonAny_row_tie rfl ⟨rfl, rfl⟩ (by kernel_rfl) rfl
    (fun f fn hf hfn => by
      obtain rfl : f = 5 := Option.some.inj ((show Tryd.prog.funcNamed Rows.jsonAnyRow.func = some 5 by kernel_rfl).symm.trans hf) |>.symm
      obtain rfl : fn = Tryd.f5 := (Option.some.inj (Tryd.func5.symm.trans hfn)).symm
      exact ⟨by kernel_rfl, fun j t ht => by
        rw [Tryd.params5] at ht
        have hm : t ∈ [9, 25] := by simpa using Array.mem_of_getElem? ht
        have hall : ([9, 25].all fun u => !Tryd.prog.wantsStandIn u) = true := by kernel_rfl
        exact (show Tryd.prog.wantsStandIn t = false by simpa using List.all_eq_true.1 hall t hm)⟩)
    (by kernel_rfl)
#print axioms proved
end Go.Proofs.YtnehmcpkeamghaaDoor.jsonAny
