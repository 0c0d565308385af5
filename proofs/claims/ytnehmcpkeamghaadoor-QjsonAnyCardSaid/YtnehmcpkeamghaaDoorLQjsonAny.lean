/-
  binnacle/binnaclelaw27.QjsonAny returns true for every input, and each argument reads afterwards as it read before. No condition.
-/
import Derived.Lay
import Derived.LaidMore
import Derived.SevenTiedAt
import Derived.Test.YtnehmcpkeamghaaDoorTie
import Derived.Test.YtnehmcpkeamghaaDoorCards
import Derived.Test.YtnehmcpkeamghaaDoorG8
namespace Go.Proofs.YtnehmcpkeamghaaDoor.qjsonAny
open Go.ChangeShapes Go.WideShapes Go.ChangeAt Go.RowKit
open Go.ChangeMaps (open_string shut_string)
set_option linter.unusedVariables false

theorem walk (a0 : ByteArray) (a1 : Option Addr) (len1 cap1 : Nat) (es1 : List Ev.Ev) (a2 : Option Addr) (len2 cap2 : Nat) (l2 : Sha.Bs) (a3 : Int) (a4 : Int) (w : World) (hT : Sx.Tabs w []) (w0 : a0.size ≤ maxLen) (w1 : Sx.EvsAt w [] a1 len1 cap1 es1) (w2 : Sx.BsAt w [] a2 len2 cap2 l2) (w3 : (Lit.int .u16 a3).wf = true) (w4 : (Lit.int .u8 a4).wf = true) :
    Calls Tryd.prog 8 #[.string a0, .slice a1 len1 cap1, .slice a2 len2 cap2, .int .u16 a3, .int .u8 a4] w fun e w' => e = .returned (.bool true) ∧ Below w.heap.size w w' := by
  obtain ⟨s, rfl⟩ : ∃ s : Sha.Bs, a0 = ⟨(Sha.U8 s).toArray⟩ := ⟨a0.data.toList.map UInt8.toBitVec, by
    apply ByteArray.ext
    show a0.data = (Sha.U8 (a0.data.toList.map UInt8.toBitVec)).toArray
    unfold Sha.U8
    rw [List.map_map]
    have : (UInt8.ofBitVec ∘ UInt8.toBitVec) = (id : UInt8 → UInt8) := rfl
    rw [this, List.map_id]⟩
  have hl : s.length ≤ 9223372036854775807 := by
    have e : (⟨(Sha.U8 s).toArray⟩ : ByteArray).size = s.length := by show (Sha.U8 s).toArray.size = _; rw [List.size_toArray, Sha.U8_len]
    rw [e] at w0; unfold maxLen at w0; omega
  obtain ⟨x3, rfl⟩ : ∃ b : BitVec 16, a3 = (b.toNat : Int) := ⟨_, Sx.wf_w16 w3⟩
  obtain ⟨x4, rfl⟩ : ∃ b : BitVec 8, a4 = (b.toNat : Int) := ⟨_, Sx.wf_w8 w4⟩
  exact (Sx.FnR.mono (Sx.fn_qany hT hl w1 w2 x3 x4) (fun x hs ⟨_, _, _, h, _⟩ => h)).lawP (Sx.isAs_cons rfl (Sx.isAs_cons rfl (Sx.isAs_cons rfl (Sx.isAs_cons rfl (Sx.isAs_cons rfl (Sx.isAs_nil _))))))

set_option maxRecDepth 100000 in
theorem lifted (os : Os) (started : os.Started) (H : Type) (enc : TypeId × Value → H) :
    ReturnsInHanded {} Tryd.checked os 8 .any (fun w args => (Rows.qjsonAnySpec.pre enc Tryd.prog Tryd.f8 Rows.qjsonAnyRow.domain false w args ∧ laidMetH Tryd.prog Rows.qjsonAnyRow.laid w) ∧ sizedMet enc Tryd.prog Tryd.f8 (OpenSpec.ofChange Rows.qjsonAnySpec) false w args)
      (Rows.qjsonAnySpec.post enc Tryd.prog Tryd.f8 false true false false) := by
  refine returnsInHanded_of_change_and (C := Tryd.checked) (X := (fun w _ => laidMetH Tryd.prog Rows.qjsonAnyRow.laid w)) (fun _ _ _ hh h => h.of_heap hh) own started (by kernel_rfl) Tryd.func8
    (ChangeSpec.witness_shaped (enc := enc) (C := Tryd.checked) (os := os) (X := (fun w _ => laidMetH Tryd.prog Rows.qjsonAnyRow.laid w)) false (World.laidAll Tryd.prog os Rows.qjsonAnyRow.laid) #[.string ByteArray.empty, .slice none 0 0, .slice none 0 0, .int .u16 0, .int .u8 0] 8 (World.laidAll_os _ _ _)
      (World.shaped_of_ZipB (by kernel_rfl) (by kernel_rfl)) (by kernel_rfl) (by kernel_rfl) (by kernel_rfl)
      (by rw [MakeChecks.laidMetH_plain _ _ _ (by kernel_rfl)]; exact laidMet_laidAll _ (by kernel_rfl) (by kernel_rfl))) ?_
  intro W base args ds gs before hval0 hW _ _ hL _
  have hval : ∀ (j : Nat) t v, Tryd.f8.params[j]? = some t → args[j]? = some v → Value.okWide Tryd.prog W .any base t v := hval0
  have hW' := hW
  obtain ⟨p, q, hA0, hV, rfl, hfz, hnd⟩ := hW
  have hA : DataW.TrodAll enc Tryd.prog W 0 (fun _ => true) true Tryd.f8.params.toList args.toList ds p := hA0
  rw [Tryd.params8] at hA hval
  obtain ⟨v0, vs0, d0, ds0, p0, q0, hargs, rfl, rfl, h0, r0⟩ := trodAll_cons hA
  obtain ⟨v1, vs1, d1, ds1, p1, q1, rfl, rfl, rfl, h1, r1⟩ := trodAll_cons r0
  obtain ⟨v2, vs2, d2, ds2, p2, q2, rfl, rfl, rfl, h2, r2⟩ := trodAll_cons r1
  obtain ⟨v3, vs3, d3, ds3, p3, q3, rfl, rfl, rfl, h3, r3⟩ := trodAll_cons r2
  obtain ⟨v4, vs4, d4, ds4, p4, q4, rfl, rfl, rfl, h4, r4⟩ := trodAll_cons r3
  obtain ⟨rfl, rfl, rfl⟩ := trodAll_nil r4
  obtain rfl : args = #[v0, v1, v2, v3, v4] := by cases args; simp_all
  obtain ⟨rfl, rfl⟩ := trodVars_none hV
  obtain ⟨a0, rfl, rfl, rfl, w0⟩ := open_string Tryd.underlying9 (hval 0 9 v0 rfl rfl) h0
  have k1 := h1
  have lt1 : ∀ x ∈ p1, x.block < W.heap.size := by obtain ⟨m, hm⟩ := k1; exact DataW.trod_lt m _ _ _ hm
  obtain ⟨a1, len1, cap1, es1, rfl, w1⟩ := Sx.open_evs (hval 1 30 v1 rfl rfl) h1
  obtain ⟨a2, len2, cap2, rfl⟩ := okWide_slice Tryd.underlying25 (hval 2 25 v2 rfl rfl)
  have k2 := h2
  have lt2 : ∀ x ∈ p2, x.block < W.heap.size := by obtain ⟨m, hm⟩ := k2; exact DataW.trod_lt m _ _ _ hm
  obtain ⟨l2, w2⟩ : ∃ l, Sx.BsAt W [] a2 len2 cap2 l := by
    refine (fun h => (h : ∃ zs, IsRow .u8 W a2 len2 cap2 zs).elim fun zs hz => Sx.row_bs hz (Sx.okWide_spot Tryd.underlying25 (hval 2 25 _ rfl rfl))) ?_
    obtain ⟨fuel, hf⟩ := h2
    rcases open_ints Tryd.underlying25 Tryd.underlying5 (by kernel_rfl) hf with ⟨hcs, _⟩ | ⟨x, l, c, zs, hcs, _, hl, hm, hz, _, hcell, hwz⟩
    · simp [Value.cells] at hcs
      obtain ⟨rfl, rfl, rfl⟩ := hcs
      exact ⟨[], .inl ⟨rfl, rfl, rfl, rfl⟩⟩
    · simp [Value.cells] at hcs
      obtain ⟨rfl, rfl, rfl⟩ := hcs
      exact ⟨zs, .inr ⟨_, rfl, hl, hm, by simpa using hz, hcell, hwz⟩⟩
  obtain ⟨a3, rfl, rfl, rfl, w3⟩ := open_int Tryd.underlying65 (hval 3 65 v3 rfl rfl) h3
  obtain ⟨a4, rfl, rfl, rfl, w4⟩ := open_int Tryd.underlying5 (hval 4 5 v4 rfl rfl) h4
  clear hA0 hval0
  refine (walk a0 a1 len1 cap1 es1 a2 len2 cap2 l2 a3 a4 W (Sx.tabs_of_laid hL) w0 w1 w2 w3 w4).mono fun e W' ⟨he, bel⟩ => ?_
  subst he
  exact ⟨_, rfl, _, _, _, [], _, [], hW', trodAll_mk1 (shut_bool Tryd.underlying4 _), (trodAll_cons_mk (shut_string Tryd.underlying9 w0) (trodAll_cons_mk (Below.trod laidOut (by kernel_rfl) (of_decide_eq_true (by kernel_rfl)) k1 bel lt1) (trodAll_cons_mk (Below.trod laidOut (by kernel_rfl) (of_decide_eq_true (by kernel_rfl)) k2 bel lt2) (trodAll_cons_mk (shut_int Tryd.underlying65 w3) (trodAll_cons_mk (shut_int Tryd.underlying5 w4) trodAll_mk0))))), rfl, bel.frame _, fun h => by cases h⟩

theorem over : Rows.qjsonAnyRow.holds Tryd.pinned (OpenSpec.ofChange Rows.qjsonAnySpec) :=
  OpenClaim.holds_of_wide 8 Tryd.f8 rfl rfl rfl rfl rfl rfl rfl ⟨rfl, rfl, rfl, rfl, rfl⟩ rfl rfl rfl rfl rfl (by kernel_rfl) Tryd.func8 (by kernel_rfl)
    (of_decide_eq_true (by kernel_rfl)) (by unfold Func.isWrapper; first | (rw [if_pos (by decide +kernel)]; kernel_rfl) | (rw [if_neg (by decide +kernel)]; exact ⟨rfl, rfl⟩))
    (fun os started H enc _ => lifted os started H enc)

/-- THE STATEMENT -/
theorem proved : Rows.QjsonAnyCardSaid :=
  Claim7.holds_tied_plain_at .later [] [.data, .data, .data, .data, .pinned] true (true, "2f2b7db2177223d0d2ef7eda3a20b344ff21f018efd14127c9e59ea153da7048") false
    over (fun _ h => by cases h) (by kernel_rfl) (fun _ h => by cases h) qjsonAny_row_tie rfl ⟨rfl, rfl⟩ (by kernel_rfl) rfl
    (fun f fn hf hfn => by
      obtain rfl : f = 8 := Option.some.inj ((show Tryd.prog.funcNamed Rows.qjsonAnyRow.func = some 8 by kernel_rfl).symm.trans hf) |>.symm
      obtain rfl : fn = Tryd.f8 := (Option.some.inj (Tryd.func8.symm.trans hfn)).symm
      exact ⟨by kernel_rfl, fun j t ht => by
        rw [Tryd.params8] at ht
        have hm : t ∈ [9, 30, 25, 65, 5] := by
          have := Array.mem_of_getElem? ht
          simp only [List.mem_toArray, List.mem_cons, List.not_mem_nil, or_false] at this ⊢
          omega
        have hall : ([9, 30, 25, 65, 5].all fun u => !Tryd.prog.wantsStandIn u) = true := by kernel_rfl
        exact (show Tryd.prog.wantsStandIn t = false by simpa using List.all_eq_true.1 hall t hm)⟩)
    (by kernel_rfl)
#print axioms proved
end Go.Proofs.YtnehmcpkeamghaaDoor.qjsonAny
