/-
  Texts of this claim, part 7: ShaE, ShaL, ShaS, ShaT, ShaK, ShaQ, ShaW, ShaX, ShaV, ShaY, KdfA, KdfB, KdfC. No condition of its own.
-/
import Derived.Test.YtgmbfaefadefjaaG6
namespace Go.Proofs.Ytgmbfaefadefjaa
set_option linter.unusedVariables false
section
namespace Sha
def padP (h:Nat):Nat:=if h<56 then 56-h else 120-h
def padB (p:Nat) (m:BitVec 64) (i:Nat):BitVec 8:=if i=0 then 128#8 else if i<p then 0#8 else (m >>> (8*(7-(i-p)))).setWidth 8
def outW (V:Nat→BitVec 32) (i:Nat):BitVec 8:=(V (i / 4) >>> (8*(3-i % 4))).setWidth 8
def endD (d:Dg) (a:BitVec 64):Dg:=pushN d (padB (padP d.h) (a*8#64)) (padP d.h+8)
def endV (d:Dg) (a:BitVec 64) (i:Nat):BitVec 8:=outW (endD d a).V i
theorem padP_iff {h k:Nat} (hh:h<64) (hk:k+1≤padP h):(h+(k+1)) % 64=56 ↔ k+1=padP h:=by
 unfold padP at *
 by_cases h5:h<56
 ·rw [if_pos h5] at *; constructor <;> intro _ <;> omega
 ·rw [if_neg h5] at *; constructor <;> intro _ <;> omega
theorem padP_le {h:Nat} (hh:h<64):1≤padP h∧padP h≤64:=by unfold padP; split <;> omega
end Sha
namespace Sx
open Sha

theorem app1 {f:Nat→SC} {n:Nat} {b:Nat→BitVec 8} {g:Nat→SC} (hf:∀ j,j<n→f j=.w8 (b j)) (hg:g 0=.w8 (b n)) (i:Nat) (hi:i<n+1) :
  appF f 0 (scale n (0+1)) (scale 1 (0+1)) g i=.w8 (b i):=by
 unfold appF
 by_cases hik:i<n
 ·rw [if_pos (by simpa [scale] using hik),Nat.add_zero,hf i hik]
 ·obtain rfl:i=n:=by omega
  rw [if_neg (by simp [scale]),if_pos (by simp [scale]),show i-scale i (0+1)=0 from Nat.sub_self _,hg]
theorem of_decide_eq_false' {p:Prop} [Decidable p] (h:decide (¬ p)=false):p:=Decidable.not_not.1 (of_decide_eq_false h)
theorem shAmt8:∀ k:Nat,k<8→(8#64*BitVec.ofInt 64 (7-(k:Int))).toNat=8*(7-k):=by decide +kernel
theorem shAmt4:∀ k:Nat,k<4→(8#64*BitVec.ofInt 64 (3-(k:Int))).toNat=8*(3-k):=by decide +kernel
set_option maxRecDepth 20000 in
theorem fn_send (d : Dg) (a : BitVec 64) (hd : d.h < 64) :
    FnR Try.prog tds 52 1 [shaT 1 0 first steps, digC 0 d.V d.P d.h a] [.c (.p 1 0 0)] (fun _ => True)
      (fun x hs => x = .a (.agg [.row 32 fun i => .w8 (endV d a i)]) ∧ ∃ (V' : Nat → BitVec 32) (P' : Nat → BitVec 8) (h' : Nat) (a' : BitVec 64), hs = [shaT 1 0 first steps, digC 0 V' P' h' a']) := by
  refine fn_of_body tds_ok follows_ Try.func52 rfl (t := [.a (.c (.p 1 0 0)), .any, .any, .any, .any, .any, .any, .any, .any, .any, .any, .any, .any, .any, .any, .any, .any, .any, .any, .any, .any, .any, .any, .any, .any, .any, .any, .any, .any, .any, .any, .any, .any, .any, .any, .any, .any, .any, .any, .any, .any, .any, .any, .any, .any, .any, .any, .any, .any, .any, .any, .any, .any, .any, .any, .any, .any, .any, .any, .any, .any, .any, .any, .any, .any, .any, .any, .any, .any, .any]) rfl (fun w r0 hr _ => ?_)
  obtain ⟨x0, x1, rfl⟩ := len2' hr
  have hpl := padP_le hd
  refine .inl ⟨Nat × Nat, fun (k, c) => ⟨[.a (.c (.p 1 0 0)), .any, .a (.c (.p 2 0 0)), .a (.c (.w64 ((a * 8#64)))), .a (.c (.sl 3 0 0 (k+1) c)), .any, .any, .any, .any, .any, .any, .any, .any, .any, .any, .any, .any, .any, .any, .any, .any, .any, .any, .any, .any, .any, .any, .any, .any, .any, .any, .any, .any, .any, .any, .any, .any, .any, .any, .any, .any, .any, .any, .any, .any, .any, .any, .any, .any, .any, .any, .any, .any, .any, .any, .any, .any, .any, .any, .any, .any, .any, .any, .any, .any, .any, .any, .any, .any, .any], [shaT 1 0 first steps, digC 0 d.V d.P d.h a, [.row 32 fun _ => .w8 0#8], [.row c (bytesF (k + 1) (padB (padP d.h) (a * 8#64)))]]⟩,
    fun (k, c) => k + 1 ≤ padP d.h ∧ k + 1 ≤ c, fun (k, _) => 64 - k, ⟨(0, 1), [0, 1, 2, 3], ⟨⟨rfl, rfl, rfl⟩, ?_⟩, by omega, by omega⟩, fun (k, c) ⟨hk, hc⟩ => ?_⟩
  · (repeat first | exact trivial | refine ent1 ?_)
    exact ⟨fun j hj => eqC_bytes (fun i hi => by obtain rfl : i = 0 := by omega
                                                 rfl) j, trivial⟩
  · (repeat first | refine ⟨by omega, ?_⟩ | refine ⟨by decide, ?_⟩ | refine ⟨idx8 _, ?_⟩ | refine ⟨lt8 (Nat.le_refl _) _, ?_⟩ | refine ⟨rfl, ?_⟩)
    have e1 : ((d.h : Int) + ((k + 1 : Nat) : Int)) % 64 = (((d.h + (k + 1)) % 64 : Nat) : Int) := by omega
    refine ⟨fun h => ?_, fun h => ?_⟩
    · have h1 : ¬ ((d.h : Int) + ((k + 1 : Nat) : Int)) % 64 = 56 := of_decide_eq_true h
      have h2 := mt (padP_iff hd hk).2
      have h3 : k + 1 < padP d.h := by omega
      refine ⟨by decide, ⟨by omega, by simp [scale], by show _ * 1 ≤ _; omega⟩, fun c' hc' => ?_⟩
      refine ⟨(k + 1, c'), [0, 1, 2, 5], ⟨⟨rfl, rfl, rfl⟩, ?_⟩, by omega, by dsimp only; omega⟩
      (repeat first | exact trivial | refine ent1 ?_)
      exact ⟨fun j hj => eqC_bytes (app1 (fun _ h => bytesF_lt h) (by show SC.w8 0#8 = _; unfold padB; rw [if_neg (by omega), if_pos h3])) j, trivial⟩
    · have h1 : ((d.h : Int) + ((k + 1 : Nat) : Int)) % 64 = 56 := of_decide_eq_false' h
      have h2 : k + 1 = padP d.h := (padP_iff hd hk).1 (by omega)
      refine .inl ⟨Nat × Nat, fun (k, c) => ⟨[.a (.c (.p 1 0 0)), .any, .a (.c (.p 2 0 0)), .a (.c (.w64 ((a * 8#64)))), .a (.c (.sl 3 0 0 (padP d.h + k) c)), .a (.c (.int .i64 (7 - (k : Int)))), .any, .any, .any, .any, .any, .any, .any, .any, .any, .any, .any, .any, .any, .any, .any, .any, .any, .any, .any, .any, .any, .any, .any, .any, .any, .any, .any, .any, .any, .any, .any, .any, .any, .any, .any, .any, .any, .any, .any, .any, .any, .any, .any, .any, .any, .any, .any, .any, .any, .any, .any, .any, .any, .any, .any, .any, .any, .any, .any, .any, .any, .any, .any, .any], [shaT 1 0 first steps, digC 0 d.V d.P d.h a, [.row 32 fun _ => .w8 0#8], [.row c (bytesF (padP d.h + k) (padB (padP d.h) (a * 8#64)))]]⟩,
        fun (k, c) => k ≤ 8 ∧ padP d.h + k ≤ c, fun (k, _) => 64 - k, ⟨(0, c), [0, 1, 2, 3], ⟨⟨rfl, rfl, rfl⟩, ?_⟩, by omega, by omega⟩, fun (k, c) ⟨hk, hc⟩ => ⟨fun h => ?_, fun h => ?_⟩⟩
      · (repeat first | exact trivial | refine ent1 ?_)
        refine ⟨fun j hj => ?_, trivial⟩
        rw [h2]
        exact eqC_selfB
      · have hlt : 7 - (k : Int) ≥ 0 := of_decide_eq_true h
        refine ⟨by decide, ⟨by omega, by simp [scale], by show _ * 1 ≤ _; omega⟩, fun c' hc' => ?_⟩
        refine ⟨⟨by omega, by omega⟩, (k + 1, c'), [0, 1, 2, 5], ⟨⟨rfl, rfl, rfl⟩, ?_⟩, by omega, by dsimp only; omega⟩
        (repeat first | exact trivial | refine ent1 ?_)
        refine ⟨fun j hj => eqC_bytes (app1 (fun _ h => bytesF_lt h) ?_) j, trivial⟩
        show SC.w8 (((a * 8#64) >>> (8#64 * BitVec.ofInt 64 (7 - (k : Int))).toNat).setWidth 8) = _
        rw [shAmt8 k (by omega)]
        unfold padB
        rw [if_neg (by omega), if_neg (by omega), show padP d.h + k - padP d.h = k by omega]
      · obtain rfl : k = 8 := by have : ¬ 7 - (k : Int) ≥ 0 := of_decide_eq_false h; omega
        refine ⟨by kernel_rfl, call_same (fn_swrite false (padP d.h + 8) c c 0 (padB (padP d.h) (a * 8#64)) d a hd (by omega) (by omega) (fun h => Bool.noConfusion h)) [0, 3, 1] rfl (by (repeat first | exact trivial | refine ent1 ?_)) ?_ (fun _ _ => trivial) ?_⟩
        · (repeat first | exact trivial | refine ent1 ?_)
        · rintro x hs ⟨rfl, rfl⟩
          obtain ⟨D, hD⟩ : ∃ D, pushN d (padB (padP d.h) (a * 8#64)) (padP d.h + 8) = D := ⟨_, rfl⟩
          rw [hD]
          (repeat first | refine ⟨by omega, ?_⟩ | refine ⟨by decide, ?_⟩ | refine ⟨idx8 _, ?_⟩ | refine ⟨lt8 (Nat.le_refl _) _, ?_⟩ | refine ⟨rfl, ?_⟩)
          refine .inl ⟨Nat, fun k => ⟨[.any, .any, .a (.c (.p 2 0 0)), .any, .any, .any, .a (.c (.p 4 0 0)), .any, .any, .any, .any, .any, .any, .any, .any, .any, .any, .any, .any, .any, .any, .any, .any, .any, .any, .any, .any, .any, .any, .any, .any, .any, .any, .any, .any, .any, .any, .any, .any, .any, .any, .any, .any, .any, .any, .any, .any, .a (.agg [.row 8 fun j => .w32 (D.V j)]), .a (.c (.int .i64 (↑k))), .any, .any, .any, .any, .any, .any, .any, .any, .any, .any, .any, .any, .any, .any, .any, .any, .any, .any, .any, .any, .any], [shaT 1 0 first steps, digC 0 D.V D.P D.h (a + BitVec.ofNat 64 (padP d.h + 8)), [.row 32 fun _ => .w8 0#8], [], [.row 32 fun i => .w8 (if i < 4 * k then outW D.V i else 0#8)]]⟩,
            fun k => k ≤ 8, fun k => 8 - k, ⟨0, [0, 1, 2, 3, 4], ⟨⟨rfl, rfl, rfl⟩, ?_⟩, by omega⟩, fun k hk => ⟨fun h => ?_, fun h => ?_⟩⟩
          · (repeat first | exact trivial | refine ent1 ?_)
          · have hlt : (k : Int) < 8 := of_decide_eq_true h
            (repeat first | refine ⟨by omega, ?_⟩ | refine ⟨by decide, ?_⟩ | refine ⟨idx8 _, ?_⟩ | refine ⟨lt8 (Nat.le_refl _) _, ?_⟩ | refine ⟨rfl, ?_⟩)
            refine .inl ⟨Nat, fun m => ⟨[.any, .any, .a (.c (.p 2 0 0)), .any, .any, .any, .a (.c (.p 4 0 0)), .a (.c (.int .i64 (↑k))), .a (.c (.w32 ((D.V k)))), .any, .any, .any, .any, .any, .any, .any, .any, .any, .any, .any, .any, .any, .any, .any, .any, .any, .any, .any, .any, .any, .any, .any, .any, .any, .any, .any, .any, .any, .any, .any, .any, .any, .any, .any, .any, .any, .any, .a (.agg [.row 8 fun j => .w32 (D.V j)]), .a (.c (.int .i64 (↑k))), .any, .any, .any, .a (.c (.int .i64 (↑m))), .any, .any, .any, .any, .any, .any, .any, .any, .any, .any, .any, .any, .any, .any, .any, .any, .any], [shaT 1 0 first steps, digC 0 D.V D.P D.h (a + BitVec.ofNat 64 (padP d.h + 8)), [.row 32 fun _ => .w8 0#8], [], [.row 32 fun i => .w8 (if i < 4 * k + m then outW D.V i else 0#8)]]⟩,
              fun m => m ≤ 4, fun m => 4 - m, ⟨0, [0, 1, 2, 3, 4], ⟨⟨rfl, rfl, rfl⟩, ?_⟩, by omega⟩, fun m hm => ⟨fun h => ?_, fun h => ?_⟩⟩
            · (repeat first | exact trivial | refine ent1 ?_)
            · have hlt : (m : Int) < 4 := of_decide_eq_true h
              (repeat first | refine ⟨by omega, ?_⟩ | refine ⟨by decide, ?_⟩ | refine ⟨idx8 _, ?_⟩ | refine ⟨lt8 (Nat.le_refl _) _, ?_⟩)
              refine ⟨rfl, ⟨by omega, by omega⟩, m + 1, [0, 1, 2, 3, 4], ⟨⟨rfl, rfl, rfl⟩, ?_⟩, by dsimp only; omega, by dsimp only; omega⟩
              (repeat first | exact trivial | refine ent1 ?_)
              refine ⟨fun j hj => ?_, trivial⟩
              have e0 : (4 * (k : Int) + (m : Int)).toNat + 0 = 4 * k + m := by omega
              rw [e0, shAmt4 m (by omega)]
              unfold upd
              by_cases hj2 : j = 4 * k + m
              · rw [if_pos hj2, hj2]
                refine eqC_w8 (congrArg SC.w8 ?_)
                show _ = if 4 * k + m < 4 * k + (m + 1) then _ else _
                rw [if_pos (by omega)]
                unfold outW
                rw [show (4 * k + m) / 4 = k by omega, show (4 * k + m) % 4 = m by omega]
              · rw [if_neg hj2]
                have : j < 4 * k + (m + 1) ↔ j < 4 * k + m := by omega
                refine eqC_w8 (congrArg SC.w8 ?_)
                simp only [this]
            · obtain rfl : m = 4 := by have : ¬ (m : Int) < 4 := of_decide_eq_false h; have hm : m ≤ 4 := hm; omega
              refine ⟨⟨by omega, by omega⟩, k + 1, [0, 1, 2, 3, 4], ⟨⟨rfl, rfl, rfl⟩, ?_⟩, by dsimp only; omega, by dsimp only; omega⟩
              (repeat first | exact trivial | refine ent1 ?_)
          · obtain rfl : k = 8 := by have : ¬ (k : Int) < 8 := of_decide_eq_false h; have hk : k ≤ 8 := hk; omega
            (repeat first | refine ⟨by omega, ?_⟩ | refine ⟨by decide, ?_⟩ | refine ⟨idx8 _, ?_⟩ | refine ⟨lt8 (Nat.le_refl _) _, ?_⟩ | refine ⟨rfl, ?_⟩)
            refine ⟨.a (.agg [.row 32 fun i => .w8 (endV d a i)]), [shaT 1 0 first steps, digC 0 D.V D.P D.h (a + BitVec.ofNat 64 (padP d.h + 8))], ⟨[0, 1], ⟨rfl, rfl, rfl⟩, ?_⟩, rfl, D.V, D.P, D.h, a + BitVec.ofNat 64 (padP d.h + 8), rfl⟩
            (repeat first | exact trivial | refine ent1 ?_)
            refine ⟨fun j hj => eqC_w8 (congrArg SC.w8 ?_), ?_⟩
            · show (if j + 0 + 0 < 4 * 8 then outW D.V (j + 0 + 0) else 0#8) = endV d a j
              rw [if_pos (by omega)]
              unfold endV endD
              rw [hD]
              rfl
            · (repeat first | exact trivial | refine ent1 ?_)
end Sx
end
section
namespace Sha
def d0:Dg:=⟨first,fun _=>0#8,0⟩
def pushL (d:Dg) (l:Bs):Dg:=l.foldl push d
theorem pushL_app (d:Dg) (l m:Bs):pushL d (l++m)=pushL (pushL d l) m:=List.foldl_append
theorem pushL_lt {d:Dg} (h:d.h<64) (l:Bs):(pushL d l).h<64:=by
 induction l generalizing d with
 | nil=>exact h
 | cons x l ih=>exact ih (push_lt h x)
theorem pushN_tab (d:Dg) (b:Nat→BitVec 8):∀ n,pushN d b n=pushL d (tab n b)
 | 0=>rfl
 | n+1=>by
  simp only [pushN]
  rw [pushN_tab d b n]
  unfold tab
  rw [List.range_succ,List.map_append,pushL_app]
  rfl
theorem pushN_L (d:Dg) (l:Bs):pushN d (L l) l.length=pushL d l:=by rw [pushN_tab,tab_L]
theorem pushN_of (d:Dg) {b:Nat→BitVec 8} {n:Nat} {l:Bs} (h:l.length=n) (k:∀ i,i<n→b i=L l i):pushN d b n=pushL d l:=by rw [pushN_tab,tab_ext h k]
def sumL (l:Bs):Bs:=tab 32 (endV (pushL d0 l) (BitVec.ofNat 64 l.length))
@[simp] theorem sumL_len (l:Bs):(sumL l).length=32:=tab_len _ _
theorem L_sumL (l:Bs) {i:Nat} (h:i<32):L (sumL l) i=endV (pushL d0 l) (BitVec.ofNat 64 l.length) i:=L_tab h
def cat (ps:Nat→Bs):Nat→Bs
 | 0=>[]
 | k+1=>cat ps k++ps k
theorem ofNat_add64 (a b:Nat):BitVec.ofNat 64 a+BitVec.ofNat 64 b=BitVec.ofNat 64 (a+b):=(BitVec.ofNat_add a b).symm
end Sha
end
section
namespace Sx
open Sha

end Sx
end
section
namespace Sha
def ps3 (l0 l1 l2:Bs):Nat→Bs
 | 0=>l0
 | 1=>l1
 | _=>l2
end Sha
namespace Sx
open Sha

theorem eqC_P3 {a b c:SC} {q:List Nat} {m:Nat} (hm:m≤3) (h0:eqC q a a True) (h1:eqC q b b True) (h2:eqC q c c True) {j:Nat} :
  eqC q (partsF m (nthC [a,b,c]) j) (partsF m (nthC [a,b,c]) j) True:=eqC_partsS (fun i hi=>by
 have:i=0∨i=1∨i=2:=by omega
 rcases this with rfl|rfl|rfl
 ·exact h0
 ·exact h1
 ·exact h2)
theorem eqC_P012 {q:List Nat} {m:Nat} (hm:m≤3) {z0 z1 z2:Bool} {o0 o1 o2 n0 n1 n2 c0 c1 c2:Nat} {j:Nat} :
  eqC (0::1::2::q) (partsF m (nthC [.sn z0 0 0 o0 n0 c0,.sn z1 1 0 o1 n1 c1,.sn z2 2 0 o2 n2 c2]) j) (partsF m (nthC [.sn z0 0 0 o0 n0 c0,.sn z1 1 0 o1 n1 c1,.sn z2 2 0 o2 n2 c2]) j) True :=
 eqC_P3 (q:=0::1::2::q) (a:=.sn z0 0 0 o0 n0 c0) (b:=.sn z1 1 0 o1 n1 c1) (c:=.sn z2 2 0 o2 n2 c2) hm ⟨rfl,rfl,rfl,rfl,trivial⟩ ⟨rfl,rfl,rfl,rfl,trivial⟩ ⟨rfl,rfl,rfl,rfl,trivial⟩
set_option maxRecDepth 20000 in
theorem fn_ssum3 (z0 z1 z2:Bool) (N0 N1 N2 o0 o1 o2 c0 c1 c2:Nat) (l0 l1 l2:Bs) (cm M m:Nat) (dn:BitVec 32) (f s:Nat→BitVec 32) (hd:dn=0#32∨dn=1#32∧f=first∧s=steps)
  (hN0:o0+l0.length≤N0) (hN1:o1+l1.length≤N1) (hN2:o2+l2.length≤N2) (hc0:l0.length≤c0) (hc1:l1.length≤c1) (hc2:l2.length≤c2)
  (hz0:z0=true→l0=[]) (hz1:z1=true→l1=[]) (hz2:z2=true→l2=[]) (hm:m≤M) (hM:m≤3) :
  FnR Try.prog tds 48 4 [bts z0 N0 o0 l0.length (L l0),bts z1 N1 o1 l1.length (L l1),bts z2 N2 o2 l2.length (L l2),[.row M (partsF m (nthC [.sn z0 0 0 o0 l0.length c0,.sn z1 1 0 o1 l1.length c1,.sn z2 2 0 o2 l2.length c2]))],shaT dn 0 f s] [.c (.p 4 0 0),.c (.sl 3 0 0 m cm)] (fun _=>True)
   (fun x hs=>x=.a (.agg [.row 32 fun i=>.w8 (L (sumL (cat (ps3 l0 l1 l2) m)) i)])∧hs=[bts z0 N0 o0 l0.length (L l0),bts z1 N1 o1 l1.length (L l1),bts z2 N2 o2 l2.length (L l2),[.row M (partsF m (nthC [.sn z0 0 0 o0 l0.length c0,.sn z1 1 0 o1 l1.length c1,.sn z2 2 0 o2 l2.length c2]))],shaT 1 0 first steps]):=by
 refine fn_of_body tds_ok follows_ Try.func48 rfl (t:=[.a (.c (.p 4 0 0)),.a (.c (.sl 3 0 0 m cm)),.any,.any,.any,.any,.any,.any,.any,.any,.any,.any,.any,.any,.any,.any,.any,.any,.any,.any,.any,.any,.any]) rfl (fun w r0 hr _=>?_)
 obtain ⟨x0,x1,x2,x3,x4,rfl⟩:=len5' hr
 refine ⟨fun h=>Bool.noConfusion h,fun _=>?_⟩
 refine ⟨by kernel_rfl,call_same (fn_begin dn f s hd) [4] rfl (by (repeat first|exact trivial|refine ent1 ?_)) (by (repeat first|exact trivial|refine ent1 ?_)) (fun _ _=>trivial) ?_⟩
 rintro x hs ⟨rfl,rfl⟩
 (repeat first|refine ⟨by omega,?_⟩|refine ⟨by decide,?_⟩|refine ⟨idx8 _,?_⟩|refine ⟨lt8 (Nat.le_refl _) _,?_⟩|refine ⟨rfl,?_⟩)
 obtain ⟨ps,hps⟩:∃ ps,ps3 l0 l1 l2=ps:=⟨_,rfl⟩
 rw [hps]
 have hl:∀ (k:Nat) (l:Bs),ps k=l→pushN (pushL d0 (cat ps k)) (L l) l.length=pushL d0 (cat ps (k+1))∧BitVec.ofNat 64 (cat ps k).length+BitVec.ofNat 64 l.length=BitVec.ofNat 64 (cat ps (k+1)).length:=by
  rintro k l rfl
  refine ⟨by rw [pushN_L]; simp only [cat]; rw [pushL_app],by simp only [cat,List.length_append,ofNat_add64]⟩
 refine .inl ⟨Nat,fun k=>⟨[.any,.any,.any,.any,.a (.c (.p 5 0 0)),.a (.c (.p 6 0 0)),.any,.any,.any,.any,.any,.any,.any,.a (.c (.sl 3 0 0 m cm)),.a (.c (.int .i64 (↑m))),.a (.c (.int .i64 (↑k))),.any,.any,.any,.any,.any,.any,.any],[bts z0 N0 o0 l0.length (L l0),bts z1 N1 o1 l1.length (L l1),bts z2 N2 o2 l2.length (L l2),[.row M (partsF m (nthC [.sn z0 0 0 o0 l0.length c0,.sn z1 1 0 o1 l1.length c1,.sn z2 2 0 o2 l2.length c2]))],shaT 1 0 first steps,[.row 32 fun _=>.w8 0#8],digC 4 (pushL d0 (cat ps k)).V (pushL d0 (cat ps k)).P (pushL d0 (cat ps k)).h (BitVec.ofNat 64 (cat ps k).length)]⟩,
  fun k=>k≤m,fun k=>m-k,⟨0,[0,1,2,3,4,5,6],⟨⟨rfl,rfl,rfl⟩,?_⟩,by omega⟩,fun k hk=>⟨fun h=>?_,fun h=>?_⟩⟩
 ·(repeat first|exact trivial|refine ent1 ?_)
  refine eqC_bts (eqC_bts (eqC_bts ⟨rfl,fun j hj=>eqC_P012 hM,?_⟩))
  (repeat first|exact trivial|refine ent1 ?_)
 ·have hlt:k<m:=by have:(k:Int)<(m:Int):=of_decide_eq_true h; omega
  (repeat first|refine ⟨by omega,?_⟩|refine ⟨by decide,?_⟩|refine ⟨idx8 _,?_⟩|refine ⟨lt8 (Nat.le_refl _) _,?_⟩)
  have e1:(k:Int).toNat+0=k:=by omega
  rw [e1]
  refine frc_parts hlt ?_
  obtain ⟨D,hD⟩:∃ D,pushL d0 (cat ps k)=D:=⟨_,rfl⟩
  have hDl:D.h<64:=by rw [← hD]; exact pushL_lt (by decide) _
  rw [hD]
  have hk3:k=0∨k=1∨k=2:=by omega
  rcases hk3 with rfl|rfl|rfl
  ·obtain ⟨hk1,hl1⟩:=hl 0 l0 (by rw [← hps]; rfl)
   rw [hD] at hk1
   refine ⟨by kernel_rfl,call_same (fn_swrite z0 l0.length c0 N0 o0 (L l0) D (BitVec.ofNat 64 (cat ps 0).length) hDl hN0 hc0 (fun h=>by rw [hz0 h]; rfl)) [4,0,6] rfl (by (repeat first|exact trivial|refine ent1 ?_)) ?_ (fun _ _=>trivial) ?_⟩
   ·(repeat first|exact trivial|refine ent1 ?_)
    refine eqC_bts ?_
    (repeat first|exact trivial|refine ent1 ?_)
   ·rintro x hs ⟨rfl,rfl⟩
    rw [hk1,hl1]
    refine ⟨⟨by omega,by omega⟩,1,[0,1,2,3,4,5,6],⟨⟨rfl,rfl,rfl⟩,?_⟩,by dsimp only; omega,by dsimp only; omega⟩
    (repeat first|exact trivial|refine ent1 ?_)
    refine eqC_bts (eqC_bts (eqC_bts ⟨rfl,fun j hj=>eqC_P012 hM,?_⟩))
    (repeat first|exact trivial|refine ent1 ?_)
  ·obtain ⟨hk1,hl1⟩:=hl 1 l1 (by rw [← hps]; rfl)
   rw [hD] at hk1
   refine ⟨by kernel_rfl,call_same (fn_swrite z1 l1.length c1 N1 o1 (L l1) D (BitVec.ofNat 64 (cat ps 1).length) hDl hN1 hc1 (fun h=>by rw [hz1 h]; rfl)) [4,1,6] rfl (by (repeat first|exact trivial|refine ent1 ?_)) ?_ (fun _ _=>trivial) ?_⟩
   ·(repeat first|exact trivial|refine ent1 ?_)
    refine eqC_bts ?_
    (repeat first|exact trivial|refine ent1 ?_)
   ·rintro x hs ⟨rfl,rfl⟩
    rw [hk1,hl1]
    refine ⟨⟨by omega,by omega⟩,2,[0,1,2,3,4,5,6],⟨⟨rfl,rfl,rfl⟩,?_⟩,by dsimp only; omega,by dsimp only; omega⟩
    (repeat first|exact trivial|refine ent1 ?_)
    refine eqC_bts (eqC_bts (eqC_bts ⟨rfl,fun j hj=>eqC_P012 hM,?_⟩))
    (repeat first|exact trivial|refine ent1 ?_)
  ·obtain ⟨hk1,hl1⟩:=hl 2 l2 (by rw [← hps]; rfl)
   rw [hD] at hk1
   refine ⟨by kernel_rfl,call_same (fn_swrite z2 l2.length c2 N2 o2 (L l2) D (BitVec.ofNat 64 (cat ps 2).length) hDl hN2 hc2 (fun h=>by rw [hz2 h]; rfl)) [4,2,6] rfl (by (repeat first|exact trivial|refine ent1 ?_)) ?_ (fun _ _=>trivial) ?_⟩
   ·(repeat first|exact trivial|refine ent1 ?_)
    refine eqC_bts ?_
    (repeat first|exact trivial|refine ent1 ?_)
   ·rintro x hs ⟨rfl,rfl⟩
    rw [hk1,hl1]
    refine ⟨⟨by omega,by omega⟩,3,[0,1,2,3,4,5,6],⟨⟨rfl,rfl,rfl⟩,?_⟩,by dsimp only; omega,by dsimp only; omega⟩
    (repeat first|exact trivial|refine ent1 ?_)
    refine eqC_bts (eqC_bts (eqC_bts ⟨rfl,fun j hj=>eqC_P012 hM,?_⟩))
    (repeat first|exact trivial|refine ent1 ?_)
 ·obtain rfl:k=m:=by have:¬ (k:Int)<(m:Int):=of_decide_eq_false h; have hk:k≤m:=hk; omega
  obtain ⟨D,hD⟩:∃ D,pushL d0 (cat ps k)=D:=⟨_,rfl⟩
  have hDl:D.h<64:=by rw [← hD]; exact pushL_lt (by decide) _
  obtain ⟨S,hS⟩:∃ S,sumL (cat ps k)=S:=⟨_,rfl⟩
  have hSL:∀ i,i<32→endV D (BitVec.ofNat 64 (cat ps k).length) i=L S i:=fun i hi=>by rw [← hS,L_sumL _ hi,hD]
  rw [hD]
  refine ⟨by kernel_rfl,call_same (fn_send D (BitVec.ofNat 64 (cat ps k).length) hDl) [4,6] rfl (by (repeat first|exact trivial|refine ent1 ?_)) (by (repeat first|exact trivial|refine ent1 ?_)) (fun _ _=>trivial) ?_⟩
  rintro x hs ⟨rfl,V',P',h',a',rfl⟩
  (repeat first|refine ⟨by omega,?_⟩|refine ⟨by decide,?_⟩|refine ⟨idx8 _,?_⟩|refine ⟨lt8 (Nat.le_refl _) _,?_⟩|refine ⟨rfl,?_⟩)
  refine ⟨.a (.agg [.row 32 fun i=>.w8 (L S i)]),[bts z0 N0 o0 l0.length (L l0),bts z1 N1 o1 l1.length (L l1),bts z2 N2 o2 l2.length (L l2),[.row M (partsF k (nthC [.sn z0 0 0 o0 l0.length c0,.sn z1 1 0 o1 l1.length c1,.sn z2 2 0 o2 l2.length c2]))],shaT 1 0 first steps],⟨[0,1,2,3,4],⟨rfl,rfl,rfl⟩,?_⟩,by rw [← hS],rfl⟩
  (repeat first|exact trivial|refine ent1 ?_)
  refine ⟨fun j hj=>eqC_w8 (congrArg SC.w8 (hSL j hj)),?_⟩
  refine eqC_bts (eqC_bts (eqC_bts ⟨rfl,fun j hj=>eqC_P012 hM,?_⟩))
  (repeat first|exact trivial|refine ent1 ?_)
end Sx
end
section
namespace Sha
def keyL (key:Bs):Bs:=if 64<key.length then sumL key else key
def padL (x:BitVec 8) (K:Bs):Bs:=tab 64 fun i=>L K i ^^^ x
def markL (key m:Bs):Bs:=sumL (padL 0x5c#8 (keyL key)++sumL (padL 0x36#8 (keyL key)++m))
@[simp] theorem padL_len (x:BitVec 8) (K:Bs):(padL x K).length=64:=tab_len _ _
theorem keyL_le (key:Bs):(keyL key).length≤64:=by
 unfold keyL; split
 ·rw [sumL_len]; omega
 ·omega
@[simp] theorem markL_len (key m:Bs):(markL key m).length=32:=tab_len _ _
theorem L_over {l:Bs} {i:Nat} (h:l.length≤i):L l i=0#8:=by
 unfold L; rw [List.getD_eq_getElem?_getD,List.getElem?_eq_none h]; rfl
end Sha
namespace Sx
open Sha

theorem eqC_P123 {q:List Nat} {m:Nat} (hm:m≤3) {z0 z1 z2:Bool} {o0 o1 o2 n0 n1 n2 c0 c1 c2 i0:Nat} {j:Nat} :
  eqC (i0::1::2::3::q) (partsF m (nthC [.sn z0 1 0 o0 n0 c0,.sn z1 2 0 o1 n1 c1,.sn z2 3 0 o2 n2 c2]) j) (partsF m (nthC [.sn z0 1 0 o0 n0 c0,.sn z1 2 0 o1 n1 c1,.sn z2 3 0 o2 n2 c2]) j) True :=
 eqC_P3 (q:=i0::1::2::3::q) (a:=.sn z0 1 0 o0 n0 c0) (b:=.sn z1 2 0 o1 n1 c1) (c:=.sn z2 3 0 o2 n2 c2) hm ⟨rfl,rfl,rfl,rfl,trivial⟩ ⟨rfl,rfl,rfl,rfl,trivial⟩ ⟨rfl,rfl,rfl,rfl,trivial⟩
theorem key_row (q:List Nat) (K:Bs) (o m:Nat) (hK:K.length≤64) (hm:m=K.length) (f:Nat→SC) (hf:∀ i,i<K.length→f (i+o)=.w8 (L K i)) (j:Nat):updN (fun _=>SC.w8 0#8) 0 m (fun q=>f (q+o)) j=.w8 (L K j):=by
 subst hm
 unfold updN
 by_cases hj:j<K.length
 ·rw [if_pos ⟨by omega,by omega⟩,Nat.sub_zero]; exact hf j hj
 ·rw [if_neg (by omega),L_over (by omega)]
set_option maxHeartbeats 4000000 in
set_option maxRecDepth 20000 in
theorem fn_smark (zk z0 z1 z2:Bool) (Nk N0 N1 N2 ok o0 o1 o2 ck c0 c1 c2:Nat) (key l0 l1 l2:Bs) (cm M m:Nat) (dn:BitVec 32) (f s:Nat→BitVec 32) (hd:dn=0#32∨dn=1#32∧f=first∧s=steps)
  (hNk:ok+key.length≤Nk) (hck:key.length≤ck) (hzk:zk=true→key=[]) (hN0:o0+l0.length≤N0) (hc0:l0.length≤c0) (hz0:z0=true→l0=[]) (hN1:o1+l1.length≤N1) (hc1:l1.length≤c1) (hz1:z1=true→l1=[]) (hN2:o2+l2.length≤N2) (hc2:l2.length≤c2) (hz2:z2=true→l2=[]) (hm:m≤M) (hM:m≤3) :
  FnR Try.prog tds 28 5 [bts zk Nk ok key.length (L key),bts z0 N0 o0 l0.length (L l0),bts z1 N1 o1 l1.length (L l1),bts z2 N2 o2 l2.length (L l2),[.row M (partsF m (nthC [.sn z0 1 0 o0 l0.length c0,.sn z1 2 0 o1 l1.length c1,.sn z2 3 0 o2 l2.length c2]))],shaT dn 0 f s] [.c (.p 5 0 0),.c (.sn zk 0 0 ok key.length ck),.c (.sl 4 0 0 m cm)] (fun _=>True)
   (fun x hs=>x=.a (.agg [.row 32 fun i=>.w8 (L (markL key (cat (ps3 l0 l1 l2) m)) i)])∧hs=[bts zk Nk ok key.length (L key),bts z0 N0 o0 l0.length (L l0),bts z1 N1 o1 l1.length (L l1),bts z2 N2 o2 l2.length (L l2),[.row M (partsF m (nthC [.sn z0 1 0 o0 l0.length c0,.sn z1 2 0 o1 l1.length c1,.sn z2 3 0 o2 l2.length c2]))],shaT 1 0 first steps]):=by
 refine fn_of_body tds_ok follows_ Try.func28 rfl (t:=[.a (.c (.p 5 0 0)),.a (.c (.sn zk 0 0 ok key.length ck)),.a (.c (.sl 4 0 0 m cm)),.any,.any,.any,.any,.any,.any,.any,.any,.any,.any,.any,.any,.any,.any,.any,.any,.any,.any,.any,.any,.any,.any,.any,.any,.any,.any,.any,.any,.any,.any,.any,.any,.any,.any,.any,.any,.any,.any,.any,.any,.any,.any,.any,.any,.any,.any,.any,.any,.any,.any,.any,.any,.any,.any,.any,.any,.any,.any,.any,.any,.any,.any]) rfl (fun w r0 hr _=>?_)
 obtain ⟨x0,x1,x2,x3,x4,x5,rfl⟩:=len6' hr
 refine ⟨fun h=>Bool.noConfusion h,fun _=>?_⟩
 obtain ⟨ps,hps⟩:∃ ps,ps3 l0 l1 l2=ps:=⟨_,rfl⟩
 rw [hps]
 obtain ⟨K,hK⟩:∃ K,keyL key=K:=⟨_,rfl⟩
 have hKl:K.length≤64:=by rw [← hK]; exact keyL_le _
 have hl:∀ (k:Nat) (l pre:Bs),ps k=l→pushN (pushL d0 (pre++cat ps k)) (L l) l.length=pushL d0 (pre++cat ps (k+1))∧BitVec.ofNat 64 (pre++cat ps k).length+BitVec.ofNat 64 l.length=BitVec.ofNat 64 (pre++cat ps (k+1)).length:=by
  rintro k l pre rfl
  refine ⟨by rw [pushN_L]; simp only [cat]; rw [← List.append_assoc]; exact (pushL_app _ _ _).symm,by simp only [cat,List.length_append,ofNat_add64,Nat.add_assoc]⟩
 by_cases hlen:64<key.length
 ·obtain rfl:zk=false:=by
   cases zk
   ·rfl
   ·have:=hzk rfl; subst this; simp at hlen
  refine ⟨fun _=>?_,fun h=>absurd (of_decide_eq_false h) (by omega)⟩
  (repeat first|refine ⟨by omega,?_⟩|refine ⟨by decide,?_⟩|refine ⟨idx8 _,?_⟩|refine ⟨lt8 (Nat.le_refl _) _,?_⟩|refine ⟨rfl,?_⟩)
  refine call_same (fn_ssum3 false true true Nk 0 0 ok 0 0 ck 0 0 key [] [] 1 1 1 dn f s hd hNk (by decide) (by decide) hck (by decide) (by decide) hzk (fun _=>rfl) (fun _=>rfl) (by decide) (by decide)) [0,9,9,9,5] rfl (by (repeat first|exact trivial|refine ent1 ?_)) ?_ (fun _ _=>trivial) ?_
  ·(repeat first|exact trivial|refine ent1 ?_)
   refine ⟨fun j hj=>eqC_parts (fun i hi=>?_) j,?_⟩
   ·obtain rfl:i=0:=by omega
    exact ⟨rfl,rfl,rfl,rfl,trivial⟩
   ·(repeat first|exact trivial|refine ent1 ?_)
  rintro x hs ⟨rfl,rfl⟩
  have hcat:cat (ps3 key [] []) 1=key:=by simp [cat,ps3]
  rw [hcat]
  have hS0:sumL key=K:=by rw [← hK]; unfold keyL; rw [if_pos hlen]
  have hKl2:K.length=32:=by rw [← hS0,sumL_len]
  rw [hS0]
  have hrow:=key_row [] K 0 32 hKl hKl2.symm (fun i=>.w8 (L K i)) (fun i hi=>rfl)
  have hd':(1:BitVec 32)=0#32∨(1:BitVec 32)=1#32∧first=first∧steps=steps:=.inr ⟨rfl,rfl,rfl⟩
  (repeat first|refine ⟨by omega,?_⟩|refine ⟨by decide,?_⟩|refine ⟨idx8 _,?_⟩|refine ⟨lt8 (Nat.le_refl _) _,?_⟩|refine ⟨rfl,?_⟩|refine ⟨by simp only [scale]; omega,?_⟩)
  refine .inl ⟨Nat,fun k=>⟨[.a (.c (.p 5 0 0)),.any,.a (.c (.sl 4 0 0 m cm)),.any,.any,.any,.a (.c (.p 6 0 0)),.a (.c (.p 7 0 0)),.a (.c (.p 8 0 0)),.any,.any,.any,.any,.any,.any,.any,.any,.any,.any,.any,.any,.any,.any,.any,.any,.any,.any,.any,.any,.any,.any,.any,.a (.c (.int .i64 (↑k))),.any,.any,.any,.any,.any,.any,.any,.any,.any,.any,.any,.any,.any,.any,.any,.any,.any,.any,.any,.any,.any,.any,.any,.any,.any,.any,.any,.any,.any,.any,.any,.any],[bts false Nk ok key.length (L key),bts z0 N0 o0 l0.length (L l0),bts z1 N1 o1 l1.length (L l1),bts z2 N2 o2 l2.length (L l2),[.row M (partsF m (nthC [.sn z0 1 0 o0 l0.length c0,.sn z1 2 0 o1 l1.length c1,.sn z2 3 0 o2 l2.length c2]))],shaT 1 0 first steps,[.row 32 fun _=>.w8 0#8],[.row 64 fun i=>.w8 (if i<k then L K i ^^^ 0x36#8 else L K i)],[.row 64 fun i=>.w8 (if i<k then L K i ^^^ 0x5c#8 else L K i)]]⟩,
   fun k=>k≤64,fun k=>64-k,⟨0,[0,1,2,3,4,5,6,7,8],⟨⟨rfl,rfl,rfl⟩,?_⟩,by omega⟩,fun k hk=>⟨fun h=>?_,fun h=>?_⟩⟩
  ·(repeat first|exact trivial|refine ent1 ?_)
   refine eqC_bts (eqC_bts (eqC_bts ⟨rfl,fun j hj=>eqC_P123 hM,?_⟩))
   (repeat first|exact trivial|refine ent1 ?_)
   refine ⟨fun j hj=>eqC_w8 ?_,?_⟩
   ·exact hrow j
   ·refine ⟨rfl,fun j hj=>eqC_w8 ?_,?_⟩
    ·exact hrow j
    ·(repeat first|exact trivial|refine ent1 ?_)
  ·have hlt:(k:Int)<64:=of_decide_eq_true h
   (repeat first|refine ⟨by omega,?_⟩|refine ⟨by decide,?_⟩|refine ⟨idx8 _,?_⟩|refine ⟨lt8 (Nat.le_refl _) _,?_⟩)
   refine ⟨rfl,?_⟩
   (repeat first|refine ⟨by omega,?_⟩|refine ⟨by decide,?_⟩|refine ⟨idx8 _,?_⟩|refine ⟨lt8 (Nat.le_refl _) _,?_⟩)
   refine ⟨rfl,⟨by omega,by omega⟩,k+1,[0,1,2,3,4,5,6,7,8],⟨⟨rfl,rfl,rfl⟩,?_⟩,by dsimp only; omega,by dsimp only; omega⟩
   (repeat first|exact trivial|refine ent1 ?_)
   refine eqC_bts (eqC_bts (eqC_bts ⟨rfl,fun j hj=>eqC_P123 hM,?_⟩))
   (repeat first|exact trivial|refine ent1 ?_)
   have e0:(k:Int).toNat+0=k:=by omega
   rw [e0]
   have hx:∀ (x:BitVec 8) (j:Nat),eqC [0,1,2,3,4,5,6,7,8] (upd (fun i=>SC.w8 (if i<k then L K i ^^^ x else L K i)) k (.w8 ((if k<k then L K k ^^^ x else L K k) ^^^ x)) j) (.w8 (if j<k+1 then L K j ^^^ x else L K j)) True:=fun x j=>by
    unfold upd
    by_cases hj:j=k
    ·rw [if_pos hj,if_neg (Nat.lt_irrefl k),hj,if_pos (by omega)]; exact ⟨rfl,trivial⟩
    ·have:j<k+1 ↔ j<k:=by omega
     rw [if_neg hj]; simp only [this]; exact ⟨rfl,trivial⟩
   exact ⟨fun j hj=>hx _ j,rfl,fun j hj=>hx _ j,by (repeat first|exact trivial|refine ent1 ?_)⟩
  ·obtain rfl:k=64:=by have:¬ (k:Int)<64:=of_decide_eq_false h; have hk:k≤64:=hk; omega
   refine ⟨by kernel_rfl,call_same (fn_begin 1 first steps hd') [5] rfl (by (repeat first|exact trivial|refine ent1 ?_)) (by (repeat first|exact trivial|refine ent1 ?_)) (fun _ _=>trivial) ?_⟩
   rintro x hs ⟨rfl,rfl⟩
   obtain ⟨IN,hIN⟩:∃ IN,padL 0x36#8 K=IN:=⟨_,rfl⟩
   obtain ⟨OU,hOU⟩:∃ OU,padL 0x5c#8 K=OU:=⟨_,rfl⟩
   have hINl:IN.length=64:=by rw [← hIN,padL_len]
   have hOUl:OU.length=64:=by rw [← hOU,padL_len]
   have hINi:∀ i,i<64→(if i<64 then L K i ^^^ 0x36#8 else L K i)=L IN i:=fun i hi=>by rw [if_pos hi,← hIN]; exact (L_tab (b:=fun i=>L K i ^^^ 0x36#8) hi).symm
   have hOUi:∀ i,i<64→(if i<64 then L K i ^^^ 0x5c#8 else L K i)=L OU i:=fun i hi=>by rw [if_pos hi,← hOU]; exact (L_tab (b:=fun i=>L K i ^^^ 0x5c#8) hi).symm
   (repeat first|refine ⟨by omega,?_⟩|refine ⟨by decide,?_⟩|refine ⟨idx8 _,?_⟩|refine ⟨lt8 (Nat.le_refl _) _,?_⟩|refine ⟨rfl,?_⟩)
   have hsw:=fn_swrite false 64 64 64 0 (L IN) d0 0 (by decide) (by omega) (by omega) (fun h=>Bool.noConfusion h)
   have e1:pushN d0 (L IN) 64=pushL d0 (IN++cat ps 0):=by rw [← hINl,pushN_L]; simp [cat]
   have e2:(0:BitVec 64)+BitVec.ofNat 64 64=BitVec.ofNat 64 (IN++cat ps 0).length:=by simp [cat,hINl]
   rw [e1,e2] at hsw
   refine call_same hsw [5,7,9] rfl (by (repeat first|exact trivial|refine ent1 ?_)) ?_ (fun _ _=>trivial) ?_
   ·(repeat first|exact trivial|refine ent1 ?_)
    refine ⟨fun j hj=>eqC_win (f:=fun i=>SC.w8 (if i<64 then L K i ^^^ 0x36#8 else L K i)) (fun i hi=>congrArg SC.w8 ?_) j,?_⟩
    ·rw [Nat.zero_add]; exact hINi i hi
    ·(repeat first|exact trivial|refine ent1 ?_)
   rintro x hs ⟨rfl,rfl⟩
   (repeat first|refine ⟨by omega,?_⟩|refine ⟨by decide,?_⟩|refine ⟨idx8 _,?_⟩|refine ⟨lt8 (Nat.le_refl _) _,?_⟩|refine ⟨rfl,?_⟩)
   refine .inl ⟨Nat,fun k=>⟨[.a (.c (.p 5 0 0)),.any,.any,.any,.any,.any,.a (.c (.p 6 0 0)),.any,.a (.c (.p 8 0 0)),.any,.any,.a (.c (.p 9 0 0)),.any,.any,.any,.any,.any,.any,.any,.any,.any,.any,.any,.any,.any,.any,.any,.any,.any,.any,.any,.any,.any,.any,.any,.any,.any,.any,.any,.any,.any,.any,.any,.any,.any,.any,.any,.any,.any,.any,.a (.c (.sl 4 0 0 m cm)),.a (.c (.int .i64 (↑m))),.a (.c (.int .i64 (↑k))),.any,.any,.any,.any,.any,.any,.any,.any,.any,.any,.any,.any],[bts false Nk ok key.length (L key),bts z0 N0 o0 l0.length (L l0),bts z1 N1 o1 l1.length (L l1),bts z2 N2 o2 l2.length (L l2),[.row M (partsF m (nthC [.sn z0 1 0 o0 l0.length c0,.sn z1 2 0 o1 l1.length c1,.sn z2 3 0 o2 l2.length c2]))],shaT 1 0 first steps,[.row 32 fun _=>.w8 0#8],[],[.row 64 fun i=>.w8 (L OU i)],digC 5 (pushL d0 (IN++cat ps k)).V (pushL d0 (IN++cat ps k)).P (pushL d0 (IN++cat ps k)).h (BitVec.ofNat 64 (IN++cat ps k).length)]⟩,
    fun k=>k≤m,fun k=>m-k,⟨0,[0,1,2,3,4,5,6,7,8,9],⟨⟨rfl,rfl,rfl⟩,?_⟩,by omega⟩,fun k hk=>⟨fun h=>?_,fun h=>?_⟩⟩
   ·(repeat first|exact trivial|refine ent1 ?_)
    refine eqC_bts (eqC_bts (eqC_bts ⟨rfl,fun j hj=>eqC_P123 hM,?_⟩))
    (repeat first|exact trivial|refine ent1 ?_)
    refine ⟨fun j hj=>eqC_w8 (congrArg SC.w8 (hOUi j hj)),?_⟩
    (repeat first|exact trivial|refine ent1 ?_)
   ·have hlt:k<m:=by have:(k:Int)<(m:Int):=of_decide_eq_true h; omega
    (repeat first|refine ⟨by omega,?_⟩|refine ⟨by decide,?_⟩|refine ⟨idx8 _,?_⟩|refine ⟨lt8 (Nat.le_refl _) _,?_⟩)
    have e3:(k:Int).toNat+0=k:=by omega
    rw [e3]
    refine frc_parts hlt ?_
    obtain ⟨D,hD⟩:∃ D,pushL d0 (IN++cat ps k)=D:=⟨_,rfl⟩
    have hDl:D.h<64:=by rw [← hD]; exact pushL_lt (by decide) _
    rw [hD]
    have hk3:k=0∨k=1∨k=2:=by omega
    rcases hk3 with rfl|rfl|rfl
    ·obtain ⟨hk1,hl1⟩:=hl 0 l0 IN (by rw [← hps]; rfl)
     rw [hD] at hk1
     refine ⟨by kernel_rfl,call_same (fn_swrite z0 l0.length c0 N0 o0 (L l0) D (BitVec.ofNat 64 (IN++cat ps 0).length) hDl hN0 hc0 (fun h=>by rw [hz0 h]; rfl)) [5,1,9] rfl (by (repeat first|exact trivial|refine ent1 ?_)) ?_ (fun _ _=>trivial) ?_⟩
     ·(repeat first|exact trivial|refine ent1 ?_)
      refine eqC_bts ?_
      (repeat first|exact trivial|refine ent1 ?_)
     ·rintro x hs ⟨rfl,rfl⟩
      rw [hk1,hl1]
      refine ⟨⟨by omega,by omega⟩,1,[0,1,2,3,4,5,6,7,8,9],⟨⟨rfl,rfl,rfl⟩,?_⟩,by dsimp only; omega,by dsimp only; omega⟩
      (repeat first|exact trivial|refine ent1 ?_)
      refine eqC_bts (eqC_bts (eqC_bts ⟨rfl,fun j hj=>eqC_P123 hM,?_⟩))
      (repeat first|exact trivial|refine ent1 ?_)
    ·obtain ⟨hk1,hl1⟩:=hl 1 l1 IN (by rw [← hps]; rfl)
     rw [hD] at hk1
     refine ⟨by kernel_rfl,call_same (fn_swrite z1 l1.length c1 N1 o1 (L l1) D (BitVec.ofNat 64 (IN++cat ps 1).length) hDl hN1 hc1 (fun h=>by rw [hz1 h]; rfl)) [5,2,9] rfl (by (repeat first|exact trivial|refine ent1 ?_)) ?_ (fun _ _=>trivial) ?_⟩
     ·(repeat first|exact trivial|refine ent1 ?_)
      refine eqC_bts ?_
      (repeat first|exact trivial|refine ent1 ?_)
     ·rintro x hs ⟨rfl,rfl⟩
      rw [hk1,hl1]
      refine ⟨⟨by omega,by omega⟩,2,[0,1,2,3,4,5,6,7,8,9],⟨⟨rfl,rfl,rfl⟩,?_⟩,by dsimp only; omega,by dsimp only; omega⟩
      (repeat first|exact trivial|refine ent1 ?_)
      refine eqC_bts (eqC_bts (eqC_bts ⟨rfl,fun j hj=>eqC_P123 hM,?_⟩))
      (repeat first|exact trivial|refine ent1 ?_)
    ·obtain ⟨hk1,hl1⟩:=hl 2 l2 IN (by rw [← hps]; rfl)
     rw [hD] at hk1
     refine ⟨by kernel_rfl,call_same (fn_swrite z2 l2.length c2 N2 o2 (L l2) D (BitVec.ofNat 64 (IN++cat ps 2).length) hDl hN2 hc2 (fun h=>by rw [hz2 h]; rfl)) [5,3,9] rfl (by (repeat first|exact trivial|refine ent1 ?_)) ?_ (fun _ _=>trivial) ?_⟩
     ·(repeat first|exact trivial|refine ent1 ?_)
      refine eqC_bts ?_
      (repeat first|exact trivial|refine ent1 ?_)
     ·rintro x hs ⟨rfl,rfl⟩
      rw [hk1,hl1]
      refine ⟨⟨by omega,by omega⟩,3,[0,1,2,3,4,5,6,7,8,9],⟨⟨rfl,rfl,rfl⟩,?_⟩,by dsimp only; omega,by dsimp only; omega⟩
      (repeat first|exact trivial|refine ent1 ?_)
      refine eqC_bts (eqC_bts (eqC_bts ⟨rfl,fun j hj=>eqC_P123 hM,?_⟩))
      (repeat first|exact trivial|refine ent1 ?_)
   ·obtain rfl:k=m:=by have:¬ (k:Int)<(m:Int):=of_decide_eq_false h; have hk:k≤m:=hk; omega
    obtain ⟨D,hD⟩:∃ D,pushL d0 (IN++cat ps k)=D:=⟨_,rfl⟩
    have hDl:D.h<64:=by rw [← hD]; exact pushL_lt (by decide) _
    obtain ⟨S,hS⟩:∃ S,sumL (IN++cat ps k)=S:=⟨_,rfl⟩
    have hSl:S.length=32:=by rw [← hS,sumL_len]
    have hSL:∀ i,i<32→endV D (BitVec.ofNat 64 (IN++cat ps k).length) i=L S i:=fun i hi=>by rw [← hS,L_sumL _ hi,hD]
    have hM1:markL key (cat ps k)=sumL (OU++S):=by unfold markL; rw [hK,hIN,hOU,hS]
    rw [hD]
    refine ⟨by kernel_rfl,call_same (fn_send D (BitVec.ofNat 64 (IN++cat ps k).length) hDl) [5,9] rfl (by (repeat first|exact trivial|refine ent1 ?_)) (by (repeat first|exact trivial|refine ent1 ?_)) (fun _ _=>trivial) ?_⟩
    rintro x hs ⟨rfl,V',P',h',a',rfl⟩
    (repeat first|refine ⟨by omega,?_⟩|refine ⟨by decide,?_⟩|refine ⟨idx8 _,?_⟩|refine ⟨lt8 (Nat.le_refl _) _,?_⟩|refine ⟨rfl,?_⟩)
    refine ⟨some [],[],[(0,true),(1,true),(2,true),(3,false),(4,false)],[5],by kernel_rfl,?_⟩
    (repeat first|refine ⟨by omega,?_⟩|refine ⟨by decide,?_⟩|refine ⟨idx8 _,?_⟩|refine ⟨lt8 (Nat.le_refl _) _,?_⟩|refine ⟨rfl,?_⟩)
    refine call_same (fn_ssum3 false false true 64 32 0 0 0 0 64 32 0 OU S [] 2 2 2 1 first steps (.inr ⟨rfl,rfl,rfl⟩) (by omega) (by omega) (by decide) (by omega) (by omega) (by decide) (fun h=>Bool.noConfusion h) (fun h=>Bool.noConfusion h) (fun _=>rfl) (by decide) (by decide)) [8,10,10,11,5] rfl (by (repeat first|exact trivial|refine ent1 ?_)) ?_ (fun _ _=>trivial) ?_
    ·(repeat first|exact trivial|refine ent1 ?_)
     refine ⟨fun j hj=>eqC_win8 (fun i hi=>rfl) j,?_⟩
     (repeat first|exact trivial|refine ent1 ?_)
     refine ⟨fun j hj=>eqC_win8 (fun i hi=>hSL i (by omega)) j,?_⟩
     (repeat first|exact trivial|refine ent1 ?_)
     refine ⟨fun j hj=>eqC_parts (fun i hi=>?_) j,?_⟩
     ·have:i=0∨i=1:=by omega
      rcases this with rfl|rfl
      ·exact ⟨rfl,rfl,hOUl.symm,rfl,trivial⟩
      ·exact ⟨rfl,rfl,hSl.symm,rfl,trivial⟩
     ·(repeat first|exact trivial|refine ent1 ?_)
    rintro x hs ⟨rfl,rfl⟩
    (repeat first|refine ⟨by omega,?_⟩|refine ⟨by decide,?_⟩|refine ⟨idx8 _,?_⟩|refine ⟨lt8 (Nat.le_refl _) _,?_⟩|refine ⟨rfl,?_⟩)
    have hcat:cat (ps3 OU S []) 2=OU++S:=by simp [cat,ps3]
    rw [hcat]
    refine ⟨.a (.agg [.row 32 fun i=>.w8 (L (markL key (cat ps k)) i)]),[bts false Nk ok key.length (L key),bts z0 N0 o0 l0.length (L l0),bts z1 N1 o1 l1.length (L l1),bts z2 N2 o2 l2.length (L l2),[.row M (partsF k (nthC [.sn z0 1 0 o0 l0.length c0,.sn z1 2 0 o1 l1.length c1,.sn z2 3 0 o2 l2.length c2]))],shaT 1 0 first steps],⟨[0,1,2,3,4,5],⟨rfl,rfl,rfl⟩,?_⟩,rfl,rfl⟩
    rw [hM1]
    (repeat first|exact trivial|refine ent1 ?_)
    refine eqC_bts (eqC_bts (eqC_bts ⟨rfl,fun j hj=>eqC_P123 hM,?_⟩))
    (repeat first|exact trivial|refine ent1 ?_)
 refine ⟨fun h=>absurd (of_decide_eq_true h) (by omega),fun _=>?_⟩
 obtain rfl:key=K:=by rw [← hK]; unfold keyL; rw [if_neg hlen]
 cases zk with
 | true =>
  obtain rfl:=hzk rfl
  have hrow:=key_row [] [] 0 0 (by decide) rfl (fun i=>.any) (fun i hi=>absurd hi (by simp))
  have hd':=hd
  (repeat first|refine ⟨by omega,?_⟩|refine ⟨by decide,?_⟩|refine ⟨idx8 _,?_⟩|refine ⟨lt8 (Nat.le_refl _) _,?_⟩|refine ⟨rfl,?_⟩|refine ⟨by simp only [scale]; omega,?_⟩)
  refine ⟨fun q=>SC.any,⟨fun h=>rfl,fun h=>Bool.noConfusion h⟩,?_⟩
  (repeat first|refine ⟨by omega,?_⟩|refine ⟨by decide,?_⟩|refine ⟨idx8 _,?_⟩|refine ⟨lt8 (Nat.le_refl _) _,?_⟩|refine ⟨rfl,?_⟩|refine ⟨by simp only [scale]; omega,?_⟩)
  refine ⟨fun q=>SC.any,⟨fun h=>rfl,fun h=>Bool.noConfusion h⟩,?_⟩
  (repeat first|refine ⟨by omega,?_⟩|refine ⟨by decide,?_⟩|refine ⟨idx8 _,?_⟩|refine ⟨lt8 (Nat.le_refl _) _,?_⟩|refine ⟨rfl,?_⟩|refine ⟨by simp only [scale]; omega,?_⟩)
  refine .inl ⟨Nat,fun k=>⟨[.a (.c (.p 5 0 0)),.any,.a (.c (.sl 4 0 0 m cm)),.any,.any,.any,.a (.c (.p 6 0 0)),.a (.c (.p 7 0 0)),.a (.c (.p 8 0 0)),.any,.any,.any,.any,.any,.any,.any,.any,.any,.any,.any,.any,.any,.any,.any,.any,.any,.any,.any,.any,.any,.any,.any,.a (.c (.int .i64 (↑k))),.any,.any,.any,.any,.any,.any,.any,.any,.any,.any,.any,.any,.any,.any,.any,.any,.any,.any,.any,.any,.any,.any,.any,.any,.any,.any,.any,.any,.any,.any,.any,.any],[bts true Nk ok ([]:Bs).length (L ([]:Bs)),bts z0 N0 o0 l0.length (L l0),bts z1 N1 o1 l1.length (L l1),bts z2 N2 o2 l2.length (L l2),[.row M (partsF m (nthC [.sn z0 1 0 o0 l0.length c0,.sn z1 2 0 o1 l1.length c1,.sn z2 3 0 o2 l2.length c2]))],shaT dn 0 f s,[.row 32 fun _=>.w8 0#8],[.row 64 fun i=>.w8 (if i<k then L ([]:Bs) i ^^^ 0x36#8 else L ([]:Bs) i)],[.row 64 fun i=>.w8 (if i<k then L ([]:Bs) i ^^^ 0x5c#8 else L ([]:Bs) i)]]⟩,
   fun k=>k≤64,fun k=>64-k,⟨0,[0,1,2,3,4,5,6,7,8],⟨⟨rfl,rfl,rfl⟩,?_⟩,by omega⟩,fun k hk=>⟨fun h=>?_,fun h=>?_⟩⟩
  ·(repeat first|exact trivial|refine ent1 ?_)
   refine eqC_bts (eqC_bts (eqC_bts (eqC_bts ⟨rfl,fun j hj=>eqC_P123 hM,?_⟩)))
   (repeat first|exact trivial|refine ent1 ?_)
  ·have hlt:(k:Int)<64:=of_decide_eq_true h
   (repeat first|refine ⟨by omega,?_⟩|refine ⟨by decide,?_⟩|refine ⟨idx8 _,?_⟩|refine ⟨lt8 (Nat.le_refl _) _,?_⟩)
   refine ⟨rfl,?_⟩
   (repeat first|refine ⟨by omega,?_⟩|refine ⟨by decide,?_⟩|refine ⟨idx8 _,?_⟩|refine ⟨lt8 (Nat.le_refl _) _,?_⟩)
   refine ⟨rfl,⟨by omega,by omega⟩,k+1,[0,1,2,3,4,5,6,7,8],⟨⟨rfl,rfl,rfl⟩,?_⟩,by dsimp only; omega,by dsimp only; omega⟩
   (repeat first|exact trivial|refine ent1 ?_)
   refine eqC_bts (eqC_bts (eqC_bts (eqC_bts ⟨rfl,fun j hj=>eqC_P123 hM,?_⟩)))
   (repeat first|exact trivial|refine ent1 ?_)
   have e0:(k:Int).toNat+0=k:=by omega
   rw [e0]
   have hx:∀ (x:BitVec 8) (j:Nat),eqC [0,1,2,3,4,5,6,7,8] (upd (fun i=>SC.w8 (if i<k then L ([]:Bs) i ^^^ x else L ([]:Bs) i)) k (.w8 ((if k<k then L ([]:Bs) k ^^^ x else L ([]:Bs) k) ^^^ x)) j) (.w8 (if j<k+1 then L ([]:Bs) j ^^^ x else L ([]:Bs) j)) True:=fun x j=>by
    unfold upd
    by_cases hj:j=k
    ·rw [if_pos hj,if_neg (Nat.lt_irrefl k),hj,if_pos (by omega)]; exact ⟨rfl,trivial⟩
    ·have:j<k+1 ↔ j<k:=by omega
     rw [if_neg hj]; simp only [this]; exact ⟨rfl,trivial⟩
   exact ⟨fun j hj=>hx _ j,rfl,fun j hj=>hx _ j,by (repeat first|exact trivial|refine ent1 ?_)⟩
  ·obtain rfl:k=64:=by have:¬ (k:Int)<64:=of_decide_eq_false h; have hk:k≤64:=hk; omega
   refine ⟨by kernel_rfl,call_same (fn_begin dn f s hd') [5] rfl (by (repeat first|exact trivial|refine ent1 ?_)) (by (repeat first|exact trivial|refine ent1 ?_)) (fun _ _=>trivial) ?_⟩
   rintro x hs ⟨rfl,rfl⟩
   obtain ⟨IN,hIN⟩:∃ IN,padL 0x36#8 ([]:Bs)=IN:=⟨_,rfl⟩
   obtain ⟨OU,hOU⟩:∃ OU,padL 0x5c#8 ([]:Bs)=OU:=⟨_,rfl⟩
   have hINl:IN.length=64:=by rw [← hIN,padL_len]
   have hOUl:OU.length=64:=by rw [← hOU,padL_len]
   have hINi:∀ i,i<64→(if i<64 then L ([]:Bs) i ^^^ 0x36#8 else L ([]:Bs) i)=L IN i:=fun i hi=>by rw [if_pos hi,← hIN]; exact (L_tab (b:=fun i=>L ([]:Bs) i ^^^ 0x36#8) hi).symm
   have hOUi:∀ i,i<64→(if i<64 then L ([]:Bs) i ^^^ 0x5c#8 else L ([]:Bs) i)=L OU i:=fun i hi=>by rw [if_pos hi,← hOU]; exact (L_tab (b:=fun i=>L ([]:Bs) i ^^^ 0x5c#8) hi).symm
   (repeat first|refine ⟨by omega,?_⟩|refine ⟨by decide,?_⟩|refine ⟨idx8 _,?_⟩|refine ⟨lt8 (Nat.le_refl _) _,?_⟩|refine ⟨rfl,?_⟩)
   have hsw:=fn_swrite false 64 64 64 0 (L IN) d0 0 (by decide) (by omega) (by omega) (fun h=>Bool.noConfusion h)
   have e1:pushN d0 (L IN) 64=pushL d0 (IN++cat ps 0):=by rw [← hINl,pushN_L]; simp [cat]
   have e2:(0:BitVec 64)+BitVec.ofNat 64 64=BitVec.ofNat 64 (IN++cat ps 0).length:=by simp [cat,hINl]
   rw [e1,e2] at hsw
   refine call_same hsw [5,7,9] rfl (by (repeat first|exact trivial|refine ent1 ?_)) ?_ (fun _ _=>trivial) ?_
   ·(repeat first|exact trivial|refine ent1 ?_)
    refine ⟨fun j hj=>eqC_win (f:=fun i=>SC.w8 (if i<64 then L ([]:Bs) i ^^^ 0x36#8 else L ([]:Bs) i)) (fun i hi=>congrArg SC.w8 ?_) j,?_⟩
    ·rw [Nat.zero_add]; exact hINi i hi
    ·(repeat first|exact trivial|refine ent1 ?_)
   rintro x hs ⟨rfl,rfl⟩
   (repeat first|refine ⟨by omega,?_⟩|refine ⟨by decide,?_⟩|refine ⟨idx8 _,?_⟩|refine ⟨lt8 (Nat.le_refl _) _,?_⟩|refine ⟨rfl,?_⟩)
   refine .inl ⟨Nat,fun k=>⟨[.a (.c (.p 5 0 0)),.any,.any,.any,.any,.any,.a (.c (.p 6 0 0)),.any,.a (.c (.p 8 0 0)),.any,.any,.a (.c (.p 9 0 0)),.any,.any,.any,.any,.any,.any,.any,.any,.any,.any,.any,.any,.any,.any,.any,.any,.any,.any,.any,.any,.any,.any,.any,.any,.any,.any,.any,.any,.any,.any,.any,.any,.any,.any,.any,.any,.any,.any,.a (.c (.sl 4 0 0 m cm)),.a (.c (.int .i64 (↑m))),.a (.c (.int .i64 (↑k))),.any,.any,.any,.any,.any,.any,.any,.any,.any,.any,.any,.any],[bts true Nk ok ([]:Bs).length (L ([]:Bs)),bts z0 N0 o0 l0.length (L l0),bts z1 N1 o1 l1.length (L l1),bts z2 N2 o2 l2.length (L l2),[.row M (partsF m (nthC [.sn z0 1 0 o0 l0.length c0,.sn z1 2 0 o1 l1.length c1,.sn z2 3 0 o2 l2.length c2]))],shaT 1 0 first steps,[.row 32 fun _=>.w8 0#8],[],[.row 64 fun i=>.w8 (L OU i)],digC 5 (pushL d0 (IN++cat ps k)).V (pushL d0 (IN++cat ps k)).P (pushL d0 (IN++cat ps k)).h (BitVec.ofNat 64 (IN++cat ps k).length)]⟩,
    fun k=>k≤m,fun k=>m-k,⟨0,[0,1,2,3,4,5,6,7,8,9],⟨⟨rfl,rfl,rfl⟩,?_⟩,by omega⟩,fun k hk=>⟨fun h=>?_,fun h=>?_⟩⟩
   ·(repeat first|exact trivial|refine ent1 ?_)
    refine eqC_bts (eqC_bts (eqC_bts (eqC_bts ⟨rfl,fun j hj=>eqC_P123 hM,?_⟩)))
    (repeat first|exact trivial|refine ent1 ?_)
    refine ⟨fun j hj=>eqC_w8 (congrArg SC.w8 (hOUi j hj)),?_⟩
    (repeat first|exact trivial|refine ent1 ?_)
   ·have hlt:k<m:=by have:(k:Int)<(m:Int):=of_decide_eq_true h; omega
    (repeat first|refine ⟨by omega,?_⟩|refine ⟨by decide,?_⟩|refine ⟨idx8 _,?_⟩|refine ⟨lt8 (Nat.le_refl _) _,?_⟩)
    have e3:(k:Int).toNat+0=k:=by omega
    rw [e3]
    refine frc_parts hlt ?_
    obtain ⟨D,hD⟩:∃ D,pushL d0 (IN++cat ps k)=D:=⟨_,rfl⟩
    have hDl:D.h<64:=by rw [← hD]; exact pushL_lt (by decide) _
    rw [hD]
    have hk3:k=0∨k=1∨k=2:=by omega
    rcases hk3 with rfl|rfl|rfl
    ·obtain ⟨hk1,hl1⟩:=hl 0 l0 IN (by rw [← hps]; rfl)
     rw [hD] at hk1
     refine ⟨by kernel_rfl,call_same (fn_swrite z0 l0.length c0 N0 o0 (L l0) D (BitVec.ofNat 64 (IN++cat ps 0).length) hDl hN0 hc0 (fun h=>by rw [hz0 h]; rfl)) [5,1,9] rfl (by (repeat first|exact trivial|refine ent1 ?_)) ?_ (fun _ _=>trivial) ?_⟩
     ·(repeat first|exact trivial|refine ent1 ?_)
      refine eqC_bts ?_
      (repeat first|exact trivial|refine ent1 ?_)
     ·rintro x hs ⟨rfl,rfl⟩
      rw [hk1,hl1]
      refine ⟨⟨by omega,by omega⟩,1,[0,1,2,3,4,5,6,7,8,9],⟨⟨rfl,rfl,rfl⟩,?_⟩,by dsimp only; omega,by dsimp only; omega⟩
      (repeat first|exact trivial|refine ent1 ?_)
      refine eqC_bts (eqC_bts (eqC_bts (eqC_bts ⟨rfl,fun j hj=>eqC_P123 hM,?_⟩)))
      (repeat first|exact trivial|refine ent1 ?_)
    ·obtain ⟨hk1,hl1⟩:=hl 1 l1 IN (by rw [← hps]; rfl)
     rw [hD] at hk1
     refine ⟨by kernel_rfl,call_same (fn_swrite z1 l1.length c1 N1 o1 (L l1) D (BitVec.ofNat 64 (IN++cat ps 1).length) hDl hN1 hc1 (fun h=>by rw [hz1 h]; rfl)) [5,2,9] rfl (by (repeat first|exact trivial|refine ent1 ?_)) ?_ (fun _ _=>trivial) ?_⟩
     ·(repeat first|exact trivial|refine ent1 ?_)
      refine eqC_bts ?_
      (repeat first|exact trivial|refine ent1 ?_)
     ·rintro x hs ⟨rfl,rfl⟩
      rw [hk1,hl1]
      refine ⟨⟨by omega,by omega⟩,2,[0,1,2,3,4,5,6,7,8,9],⟨⟨rfl,rfl,rfl⟩,?_⟩,by dsimp only; omega,by dsimp only; omega⟩
      (repeat first|exact trivial|refine ent1 ?_)
      refine eqC_bts (eqC_bts (eqC_bts (eqC_bts ⟨rfl,fun j hj=>eqC_P123 hM,?_⟩)))
      (repeat first|exact trivial|refine ent1 ?_)
    ·obtain ⟨hk1,hl1⟩:=hl 2 l2 IN (by rw [← hps]; rfl)
     rw [hD] at hk1
     refine ⟨by kernel_rfl,call_same (fn_swrite z2 l2.length c2 N2 o2 (L l2) D (BitVec.ofNat 64 (IN++cat ps 2).length) hDl hN2 hc2 (fun h=>by rw [hz2 h]; rfl)) [5,3,9] rfl (by (repeat first|exact trivial|refine ent1 ?_)) ?_ (fun _ _=>trivial) ?_⟩
     ·(repeat first|exact trivial|refine ent1 ?_)
      refine eqC_bts ?_
      (repeat first|exact trivial|refine ent1 ?_)
     ·rintro x hs ⟨rfl,rfl⟩
      rw [hk1,hl1]
      refine ⟨⟨by omega,by omega⟩,3,[0,1,2,3,4,5,6,7,8,9],⟨⟨rfl,rfl,rfl⟩,?_⟩,by dsimp only; omega,by dsimp only; omega⟩
      (repeat first|exact trivial|refine ent1 ?_)
      refine eqC_bts (eqC_bts (eqC_bts (eqC_bts ⟨rfl,fun j hj=>eqC_P123 hM,?_⟩)))
      (repeat first|exact trivial|refine ent1 ?_)
   ·obtain rfl:k=m:=by have:¬ (k:Int)<(m:Int):=of_decide_eq_false h; have hk:k≤m:=hk; omega
    obtain ⟨D,hD⟩:∃ D,pushL d0 (IN++cat ps k)=D:=⟨_,rfl⟩
    have hDl:D.h<64:=by rw [← hD]; exact pushL_lt (by decide) _
    obtain ⟨S,hS⟩:∃ S,sumL (IN++cat ps k)=S:=⟨_,rfl⟩
    have hSl:S.length=32:=by rw [← hS,sumL_len]
    have hSL:∀ i,i<32→endV D (BitVec.ofNat 64 (IN++cat ps k).length) i=L S i:=fun i hi=>by rw [← hS,L_sumL _ hi,hD]
    have hM1:markL ([]:Bs) (cat ps k)=sumL (OU++S):=by unfold markL; rw [hK,hIN,hOU,hS]
    rw [hD]
    refine ⟨by kernel_rfl,call_same (fn_send D (BitVec.ofNat 64 (IN++cat ps k).length) hDl) [5,9] rfl (by (repeat first|exact trivial|refine ent1 ?_)) (by (repeat first|exact trivial|refine ent1 ?_)) (fun _ _=>trivial) ?_⟩
    rintro x hs ⟨rfl,V',P',h',a',rfl⟩
    (repeat first|refine ⟨by omega,?_⟩|refine ⟨by decide,?_⟩|refine ⟨idx8 _,?_⟩|refine ⟨lt8 (Nat.le_refl _) _,?_⟩|refine ⟨rfl,?_⟩)
    refine ⟨some [],[],[(0,true),(1,true),(2,true),(3,false),(4,false)],[5],by kernel_rfl,?_⟩
    (repeat first|refine ⟨by omega,?_⟩|refine ⟨by decide,?_⟩|refine ⟨idx8 _,?_⟩|refine ⟨lt8 (Nat.le_refl _) _,?_⟩|refine ⟨rfl,?_⟩)
    refine call_same (fn_ssum3 false false true 64 32 0 0 0 0 64 32 0 OU S [] 2 2 2 1 first steps (.inr ⟨rfl,rfl,rfl⟩) (by omega) (by omega) (by decide) (by omega) (by omega) (by decide) (fun h=>Bool.noConfusion h) (fun h=>Bool.noConfusion h) (fun _=>rfl) (by decide) (by decide)) [8,10,10,11,5] rfl (by (repeat first|exact trivial|refine ent1 ?_)) ?_ (fun _ _=>trivial) ?_
    ·(repeat first|exact trivial|refine ent1 ?_)
     refine ⟨fun j hj=>eqC_win8 (fun i hi=>rfl) j,?_⟩
     (repeat first|exact trivial|refine ent1 ?_)
     refine ⟨fun j hj=>eqC_win8 (fun i hi=>hSL i (by omega)) j,?_⟩
     (repeat first|exact trivial|refine ent1 ?_)
     refine ⟨fun j hj=>eqC_parts (fun i hi=>?_) j,?_⟩
     ·have:i=0∨i=1:=by omega
      rcases this with rfl|rfl
      ·exact ⟨rfl,rfl,hOUl.symm,rfl,trivial⟩
      ·exact ⟨rfl,rfl,hSl.symm,rfl,trivial⟩
     ·(repeat first|exact trivial|refine ent1 ?_)
    rintro x hs ⟨rfl,rfl⟩
    (repeat first|refine ⟨by omega,?_⟩|refine ⟨by decide,?_⟩|refine ⟨idx8 _,?_⟩|refine ⟨lt8 (Nat.le_refl _) _,?_⟩|refine ⟨rfl,?_⟩)
    have hcat:cat (ps3 OU S []) 2=OU++S:=by simp [cat,ps3]
    rw [hcat]
    refine ⟨.a (.agg [.row 32 fun i=>.w8 (L (markL ([]:Bs) (cat ps k)) i)]),[bts true Nk ok ([]:Bs).length (L ([]:Bs)),bts z0 N0 o0 l0.length (L l0),bts z1 N1 o1 l1.length (L l1),bts z2 N2 o2 l2.length (L l2),[.row M (partsF k (nthC [.sn z0 1 0 o0 l0.length c0,.sn z1 2 0 o1 l1.length c1,.sn z2 3 0 o2 l2.length c2]))],shaT 1 0 first steps],⟨[0,1,2,3,4,5],⟨rfl,rfl,rfl⟩,?_⟩,rfl,rfl⟩
    rw [hM1]
    (repeat first|exact trivial|refine ent1 ?_)
    refine eqC_bts (eqC_bts (eqC_bts (eqC_bts ⟨rfl,fun j hj=>eqC_P123 hM,?_⟩)))
    (repeat first|exact trivial|refine ent1 ?_)
 | false =>
  have hrow:=key_row [] key ok (min key.length 64) (by omega) (by omega) (winF ok key.length (L key)) (fun i hi=>by rw [Nat.add_comm]; exact winF_at _ _ _ hi)
  have hd':=hd
  (repeat first|refine ⟨by omega,?_⟩|refine ⟨by decide,?_⟩|refine ⟨idx8 _,?_⟩|refine ⟨lt8 (Nat.le_refl _) _,?_⟩|refine ⟨rfl,?_⟩|refine ⟨by simp only [scale]; omega,?_⟩)
  refine ⟨fun q=>winF ok key.length (L key) (q+ok),⟨fun h=>Bool.noConfusion h,fun h=>⟨Nk,winF ok key.length (L key),[],rfl,by simp only [scale]; omega,fun _ _=>rfl⟩⟩,?_⟩
  (repeat first|refine ⟨by omega,?_⟩|refine ⟨by decide,?_⟩|refine ⟨idx8 _,?_⟩|refine ⟨lt8 (Nat.le_refl _) _,?_⟩|refine ⟨rfl,?_⟩|refine ⟨by simp only; omega,?_⟩)
  refine ⟨fun q=>winF ok key.length (L key) (q+ok),⟨fun h=>Bool.noConfusion h,fun h=>⟨Nk,winF ok key.length (L key),[],rfl,by simp only [scale]; omega,fun _ _=>rfl⟩⟩,?_⟩
  (repeat first|refine ⟨by omega,?_⟩|refine ⟨by decide,?_⟩|refine ⟨idx8 _,?_⟩|refine ⟨lt8 (Nat.le_refl _) _,?_⟩|refine ⟨rfl,?_⟩|refine ⟨by simp only; omega,?_⟩)
  refine .inl ⟨Nat,fun k=>⟨[.a (.c (.p 5 0 0)),.any,.a (.c (.sl 4 0 0 m cm)),.any,.any,.any,.a (.c (.p 6 0 0)),.a (.c (.p 7 0 0)),.a (.c (.p 8 0 0)),.any,.any,.any,.any,.any,.any,.any,.any,.any,.any,.any,.any,.any,.any,.any,.any,.any,.any,.any,.any,.any,.any,.any,.a (.c (.int .i64 (↑k))),.any,.any,.any,.any,.any,.any,.any,.any,.any,.any,.any,.any,.any,.any,.any,.any,.any,.any,.any,.any,.any,.any,.any,.any,.any,.any,.any,.any,.any,.any,.any,.any],[bts false Nk ok key.length (L key),bts z0 N0 o0 l0.length (L l0),bts z1 N1 o1 l1.length (L l1),bts z2 N2 o2 l2.length (L l2),[.row M (partsF m (nthC [.sn z0 1 0 o0 l0.length c0,.sn z1 2 0 o1 l1.length c1,.sn z2 3 0 o2 l2.length c2]))],shaT dn 0 f s,[.row 32 fun _=>.w8 0#8],[.row 64 fun i=>.w8 (if i<k then L key i ^^^ 0x36#8 else L key i)],[.row 64 fun i=>.w8 (if i<k then L key i ^^^ 0x5c#8 else L key i)]]⟩,
   fun k=>k≤64,fun k=>64-k,⟨0,[0,1,2,3,4,5,6,7,8],⟨⟨rfl,rfl,rfl⟩,?_⟩,by omega⟩,fun k hk=>⟨fun h=>?_,fun h=>?_⟩⟩
  ·(repeat first|exact trivial|refine ent1 ?_)
   refine eqC_bts (eqC_bts (eqC_bts ⟨rfl,fun j hj=>eqC_P123 hM,?_⟩))
   (repeat first|exact trivial|refine ent1 ?_)
   refine ⟨fun j hj=>eqC_w8 ?_,?_⟩
   ·exact hrow j
   ·refine ⟨rfl,fun j hj=>eqC_w8 ?_,?_⟩
    ·exact hrow j
    ·(repeat first|exact trivial|refine ent1 ?_)
  ·have hlt:(k:Int)<64:=of_decide_eq_true h
   (repeat first|refine ⟨by omega,?_⟩|refine ⟨by decide,?_⟩|refine ⟨idx8 _,?_⟩|refine ⟨lt8 (Nat.le_refl _) _,?_⟩)
   refine ⟨rfl,?_⟩
   (repeat first|refine ⟨by omega,?_⟩|refine ⟨by decide,?_⟩|refine ⟨idx8 _,?_⟩|refine ⟨lt8 (Nat.le_refl _) _,?_⟩)
   refine ⟨rfl,⟨by omega,by omega⟩,k+1,[0,1,2,3,4,5,6,7,8],⟨⟨rfl,rfl,rfl⟩,?_⟩,by dsimp only; omega,by dsimp only; omega⟩
   (repeat first|exact trivial|refine ent1 ?_)
   refine eqC_bts (eqC_bts (eqC_bts ⟨rfl,fun j hj=>eqC_P123 hM,?_⟩))
   (repeat first|exact trivial|refine ent1 ?_)
   have e0:(k:Int).toNat+0=k:=by omega
   rw [e0]
   have hx:∀ (x:BitVec 8) (j:Nat),eqC [0,1,2,3,4,5,6,7,8] (upd (fun i=>SC.w8 (if i<k then L key i ^^^ x else L key i)) k (.w8 ((if k<k then L key k ^^^ x else L key k) ^^^ x)) j) (.w8 (if j<k+1 then L key j ^^^ x else L key j)) True:=fun x j=>by
    unfold upd
    by_cases hj:j=k
    ·rw [if_pos hj,if_neg (Nat.lt_irrefl k),hj,if_pos (by omega)]; exact ⟨rfl,trivial⟩
    ·have:j<k+1 ↔ j<k:=by omega
     rw [if_neg hj]; simp only [this]; exact ⟨rfl,trivial⟩
   exact ⟨fun j hj=>hx _ j,rfl,fun j hj=>hx _ j,by (repeat first|exact trivial|refine ent1 ?_)⟩
  ·obtain rfl:k=64:=by have:¬ (k:Int)<64:=of_decide_eq_false h; have hk:k≤64:=hk; omega
   refine ⟨by kernel_rfl,call_same (fn_begin dn f s hd') [5] rfl (by (repeat first|exact trivial|refine ent1 ?_)) (by (repeat first|exact trivial|refine ent1 ?_)) (fun _ _=>trivial) ?_⟩
   rintro x hs ⟨rfl,rfl⟩
   obtain ⟨IN,hIN⟩:∃ IN,padL 0x36#8 key=IN:=⟨_,rfl⟩
   obtain ⟨OU,hOU⟩:∃ OU,padL 0x5c#8 key=OU:=⟨_,rfl⟩
   have hINl:IN.length=64:=by rw [← hIN,padL_len]
   have hOUl:OU.length=64:=by rw [← hOU,padL_len]
   have hINi:∀ i,i<64→(if i<64 then L key i ^^^ 0x36#8 else L key i)=L IN i:=fun i hi=>by rw [if_pos hi,← hIN]; exact (L_tab (b:=fun i=>L key i ^^^ 0x36#8) hi).symm
   have hOUi:∀ i,i<64→(if i<64 then L key i ^^^ 0x5c#8 else L key i)=L OU i:=fun i hi=>by rw [if_pos hi,← hOU]; exact (L_tab (b:=fun i=>L key i ^^^ 0x5c#8) hi).symm
   (repeat first|refine ⟨by omega,?_⟩|refine ⟨by decide,?_⟩|refine ⟨idx8 _,?_⟩|refine ⟨lt8 (Nat.le_refl _) _,?_⟩|refine ⟨rfl,?_⟩)
   have hsw:=fn_swrite false 64 64 64 0 (L IN) d0 0 (by decide) (by omega) (by omega) (fun h=>Bool.noConfusion h)
   have e1:pushN d0 (L IN) 64=pushL d0 (IN++cat ps 0):=by rw [← hINl,pushN_L]; simp [cat]
   have e2:(0:BitVec 64)+BitVec.ofNat 64 64=BitVec.ofNat 64 (IN++cat ps 0).length:=by simp [cat,hINl]
   rw [e1,e2] at hsw
   refine call_same hsw [5,7,9] rfl (by (repeat first|exact trivial|refine ent1 ?_)) ?_ (fun _ _=>trivial) ?_
   ·(repeat first|exact trivial|refine ent1 ?_)
    refine ⟨fun j hj=>eqC_win (f:=fun i=>SC.w8 (if i<64 then L key i ^^^ 0x36#8 else L key i)) (fun i hi=>congrArg SC.w8 ?_) j,?_⟩
    ·rw [Nat.zero_add]; exact hINi i hi
    ·(repeat first|exact trivial|refine ent1 ?_)
   rintro x hs ⟨rfl,rfl⟩
   (repeat first|refine ⟨by omega,?_⟩|refine ⟨by decide,?_⟩|refine ⟨idx8 _,?_⟩|refine ⟨lt8 (Nat.le_refl _) _,?_⟩|refine ⟨rfl,?_⟩)
   refine .inl ⟨Nat,fun k=>⟨[.a (.c (.p 5 0 0)),.any,.any,.any,.any,.any,.a (.c (.p 6 0 0)),.any,.a (.c (.p 8 0 0)),.any,.any,.a (.c (.p 9 0 0)),.any,.any,.any,.any,.any,.any,.any,.any,.any,.any,.any,.any,.any,.any,.any,.any,.any,.any,.any,.any,.any,.any,.any,.any,.any,.any,.any,.any,.any,.any,.any,.any,.any,.any,.any,.any,.any,.any,.a (.c (.sl 4 0 0 m cm)),.a (.c (.int .i64 (↑m))),.a (.c (.int .i64 (↑k))),.any,.any,.any,.any,.any,.any,.any,.any,.any,.any,.any,.any],[bts false Nk ok key.length (L key),bts z0 N0 o0 l0.length (L l0),bts z1 N1 o1 l1.length (L l1),bts z2 N2 o2 l2.length (L l2),[.row M (partsF m (nthC [.sn z0 1 0 o0 l0.length c0,.sn z1 2 0 o1 l1.length c1,.sn z2 3 0 o2 l2.length c2]))],shaT 1 0 first steps,[.row 32 fun _=>.w8 0#8],[],[.row 64 fun i=>.w8 (L OU i)],digC 5 (pushL d0 (IN++cat ps k)).V (pushL d0 (IN++cat ps k)).P (pushL d0 (IN++cat ps k)).h (BitVec.ofNat 64 (IN++cat ps k).length)]⟩,
    fun k=>k≤m,fun k=>m-k,⟨0,[0,1,2,3,4,5,6,7,8,9],⟨⟨rfl,rfl,rfl⟩,?_⟩,by omega⟩,fun k hk=>⟨fun h=>?_,fun h=>?_⟩⟩
   ·(repeat first|exact trivial|refine ent1 ?_)
    refine eqC_bts (eqC_bts (eqC_bts ⟨rfl,fun j hj=>eqC_P123 hM,?_⟩))
    (repeat first|exact trivial|refine ent1 ?_)
    refine ⟨fun j hj=>eqC_w8 (congrArg SC.w8 (hOUi j hj)),?_⟩
    (repeat first|exact trivial|refine ent1 ?_)
   ·have hlt:k<m:=by have:(k:Int)<(m:Int):=of_decide_eq_true h; omega
    (repeat first|refine ⟨by omega,?_⟩|refine ⟨by decide,?_⟩|refine ⟨idx8 _,?_⟩|refine ⟨lt8 (Nat.le_refl _) _,?_⟩)
    have e3:(k:Int).toNat+0=k:=by omega
    rw [e3]
    refine frc_parts hlt ?_
    obtain ⟨D,hD⟩:∃ D,pushL d0 (IN++cat ps k)=D:=⟨_,rfl⟩
    have hDl:D.h<64:=by rw [← hD]; exact pushL_lt (by decide) _
    rw [hD]
    have hk3:k=0∨k=1∨k=2:=by omega
    rcases hk3 with rfl|rfl|rfl
    ·obtain ⟨hk1,hl1⟩:=hl 0 l0 IN (by rw [← hps]; rfl)
     rw [hD] at hk1
     refine ⟨by kernel_rfl,call_same (fn_swrite z0 l0.length c0 N0 o0 (L l0) D (BitVec.ofNat 64 (IN++cat ps 0).length) hDl hN0 hc0 (fun h=>by rw [hz0 h]; rfl)) [5,1,9] rfl (by (repeat first|exact trivial|refine ent1 ?_)) ?_ (fun _ _=>trivial) ?_⟩
     ·(repeat first|exact trivial|refine ent1 ?_)
      refine eqC_bts ?_
      (repeat first|exact trivial|refine ent1 ?_)
     ·rintro x hs ⟨rfl,rfl⟩
      rw [hk1,hl1]
      refine ⟨⟨by omega,by omega⟩,1,[0,1,2,3,4,5,6,7,8,9],⟨⟨rfl,rfl,rfl⟩,?_⟩,by dsimp only; omega,by dsimp only; omega⟩
      (repeat first|exact trivial|refine ent1 ?_)
      refine eqC_bts (eqC_bts (eqC_bts ⟨rfl,fun j hj=>eqC_P123 hM,?_⟩))
      (repeat first|exact trivial|refine ent1 ?_)
    ·obtain ⟨hk1,hl1⟩:=hl 1 l1 IN (by rw [← hps]; rfl)
     rw [hD] at hk1
     refine ⟨by kernel_rfl,call_same (fn_swrite z1 l1.length c1 N1 o1 (L l1) D (BitVec.ofNat 64 (IN++cat ps 1).length) hDl hN1 hc1 (fun h=>by rw [hz1 h]; rfl)) [5,2,9] rfl (by (repeat first|exact trivial|refine ent1 ?_)) ?_ (fun _ _=>trivial) ?_⟩
     ·(repeat first|exact trivial|refine ent1 ?_)
      refine eqC_bts ?_
      (repeat first|exact trivial|refine ent1 ?_)
     ·rintro x hs ⟨rfl,rfl⟩
      rw [hk1,hl1]
      refine ⟨⟨by omega,by omega⟩,2,[0,1,2,3,4,5,6,7,8,9],⟨⟨rfl,rfl,rfl⟩,?_⟩,by dsimp only; omega,by dsimp only; omega⟩
      (repeat first|exact trivial|refine ent1 ?_)
      refine eqC_bts (eqC_bts (eqC_bts ⟨rfl,fun j hj=>eqC_P123 hM,?_⟩))
      (repeat first|exact trivial|refine ent1 ?_)
    ·obtain ⟨hk1,hl1⟩:=hl 2 l2 IN (by rw [← hps]; rfl)
     rw [hD] at hk1
     refine ⟨by kernel_rfl,call_same (fn_swrite z2 l2.length c2 N2 o2 (L l2) D (BitVec.ofNat 64 (IN++cat ps 2).length) hDl hN2 hc2 (fun h=>by rw [hz2 h]; rfl)) [5,3,9] rfl (by (repeat first|exact trivial|refine ent1 ?_)) ?_ (fun _ _=>trivial) ?_⟩
     ·(repeat first|exact trivial|refine ent1 ?_)
      refine eqC_bts ?_
      (repeat first|exact trivial|refine ent1 ?_)
     ·rintro x hs ⟨rfl,rfl⟩
      rw [hk1,hl1]
      refine ⟨⟨by omega,by omega⟩,3,[0,1,2,3,4,5,6,7,8,9],⟨⟨rfl,rfl,rfl⟩,?_⟩,by dsimp only; omega,by dsimp only; omega⟩
      (repeat first|exact trivial|refine ent1 ?_)
      refine eqC_bts (eqC_bts (eqC_bts ⟨rfl,fun j hj=>eqC_P123 hM,?_⟩))
      (repeat first|exact trivial|refine ent1 ?_)
   ·obtain rfl:k=m:=by have:¬ (k:Int)<(m:Int):=of_decide_eq_false h; have hk:k≤m:=hk; omega
    obtain ⟨D,hD⟩:∃ D,pushL d0 (IN++cat ps k)=D:=⟨_,rfl⟩
    have hDl:D.h<64:=by rw [← hD]; exact pushL_lt (by decide) _
    obtain ⟨S,hS⟩:∃ S,sumL (IN++cat ps k)=S:=⟨_,rfl⟩
    have hSl:S.length=32:=by rw [← hS,sumL_len]
    have hSL:∀ i,i<32→endV D (BitVec.ofNat 64 (IN++cat ps k).length) i=L S i:=fun i hi=>by rw [← hS,L_sumL _ hi,hD]
    have hM1:markL key (cat ps k)=sumL (OU++S):=by unfold markL; rw [hK,hIN,hOU,hS]
    rw [hD]
    refine ⟨by kernel_rfl,call_same (fn_send D (BitVec.ofNat 64 (IN++cat ps k).length) hDl) [5,9] rfl (by (repeat first|exact trivial|refine ent1 ?_)) (by (repeat first|exact trivial|refine ent1 ?_)) (fun _ _=>trivial) ?_⟩
    rintro x hs ⟨rfl,V',P',h',a',rfl⟩
    (repeat first|refine ⟨by omega,?_⟩|refine ⟨by decide,?_⟩|refine ⟨idx8 _,?_⟩|refine ⟨lt8 (Nat.le_refl _) _,?_⟩|refine ⟨rfl,?_⟩)
    refine ⟨some [],[],[(0,true),(1,true),(2,true),(3,false),(4,false)],[5],by kernel_rfl,?_⟩
    (repeat first|refine ⟨by omega,?_⟩|refine ⟨by decide,?_⟩|refine ⟨idx8 _,?_⟩|refine ⟨lt8 (Nat.le_refl _) _,?_⟩|refine ⟨rfl,?_⟩)
    refine call_same (fn_ssum3 false false true 64 32 0 0 0 0 64 32 0 OU S [] 2 2 2 1 first steps (.inr ⟨rfl,rfl,rfl⟩) (by omega) (by omega) (by decide) (by omega) (by omega) (by decide) (fun h=>Bool.noConfusion h) (fun h=>Bool.noConfusion h) (fun _=>rfl) (by decide) (by decide)) [8,10,10,11,5] rfl (by (repeat first|exact trivial|refine ent1 ?_)) ?_ (fun _ _=>trivial) ?_
    ·(repeat first|exact trivial|refine ent1 ?_)
     refine ⟨fun j hj=>eqC_win8 (fun i hi=>rfl) j,?_⟩
     (repeat first|exact trivial|refine ent1 ?_)
     refine ⟨fun j hj=>eqC_win8 (fun i hi=>hSL i (by omega)) j,?_⟩
     (repeat first|exact trivial|refine ent1 ?_)
     refine ⟨fun j hj=>eqC_parts (fun i hi=>?_) j,?_⟩
     ·have:i=0∨i=1:=by omega
      rcases this with rfl|rfl
      ·exact ⟨rfl,rfl,hOUl.symm,rfl,trivial⟩
      ·exact ⟨rfl,rfl,hSl.symm,rfl,trivial⟩
     ·(repeat first|exact trivial|refine ent1 ?_)
    rintro x hs ⟨rfl,rfl⟩
    (repeat first|refine ⟨by omega,?_⟩|refine ⟨by decide,?_⟩|refine ⟨idx8 _,?_⟩|refine ⟨lt8 (Nat.le_refl _) _,?_⟩|refine ⟨rfl,?_⟩)
    have hcat:cat (ps3 OU S []) 2=OU++S:=by simp [cat,ps3]
    rw [hcat]
    refine ⟨.a (.agg [.row 32 fun i=>.w8 (L (markL key (cat ps k)) i)]),[bts false Nk ok key.length (L key),bts z0 N0 o0 l0.length (L l0),bts z1 N1 o1 l1.length (L l1),bts z2 N2 o2 l2.length (L l2),[.row M (partsF k (nthC [.sn z0 1 0 o0 l0.length c0,.sn z1 2 0 o1 l1.length c1,.sn z2 3 0 o2 l2.length c2]))],shaT 1 0 first steps],⟨[0,1,2,3,4,5],⟨rfl,rfl,rfl⟩,?_⟩,rfl,rfl⟩
    rw [hM1]
    (repeat first|exact trivial|refine ent1 ?_)
    refine eqC_bts (eqC_bts (eqC_bts ⟨rfl,fun j hj=>eqC_P123 hM,?_⟩))
    (repeat first|exact trivial|refine ent1 ?_)
end Sx
end
section
namespace Sha

theorem compress_congr (V:Nat→BitVec 32) {P P':Nat→BitVec 8} (h:∀ i,i<64→P i=P' i):compress V P=compress V P':=by
 have e0:∀ i,i<16→w0 P i=w0 P' i:=fun i hi=>by
  unfold w0; rw [h _ (by omega),h _ (by omega),h _ (by omega),h _ (by omega)]
 have e1:∀ k i,wS P k i=wS P' k i:=by
  intro k
  induction k with
  | zero =>
   intro i
   by_cases hi:i<16
   ·simp only [wS,if_pos hi,e0 i hi]
   ·simp only [wS,if_neg hi]
  | succ k ih=>intro i; simp only [wS,ih]
 have e2:wS P 48=wS P' 48:=funext fun i=>e1 48 i
 funext i
 unfold compress
 rw [e2]
theorem pushN_h0 (d:Dg) (b:Nat→BitVec 8) (h:d.h=0):(pushN d b 64).V=compress d.V b:=by
 rw [pushN_fill d b 64 (by omega) (by omega)]
 refine compress_congr d.V fun i hi=>?_
 rw [if_pos (by omega),h,Nat.sub_zero]
theorem push_h (d:Dg) (x:BitVec 8):(push d x).h=if d.h+1=64 then 0 else d.h+1:=by
 unfold push
 split <;> rfl
theorem pushL_h (l:Bs):∀ d:Dg,d.h<64→(pushL d l).h=(d.h+l.length) % 64:=by
 induction l with
 | nil=>intro d h; show d.h=(d.h+0) % 64; omega
 | cons x l ih =>
  intro d h
  show (pushL (push d x) l).h=_
  rw [ih _ (push_lt h x),push_h,List.length_cons]
  split <;> omega
def padT (n:Nat):Bs:=tab (padP (n % 64)+8) (padB (padP (n % 64)) (BitVec.ofNat 64 n*8#64))
def full (l:Bs):Bs:=l++padT l.length
@[simp] theorem padT_len (n:Nat):(padT n).length=padP (n % 64)+8:=tab_len _ _
theorem full_len (l:Bs):(full l).length=l.length+(padP (l.length % 64)+8):=by simp [full]
theorem full_64 (l:Bs):∃ q,(full l).length=64*q∧l.length+9≤64*q∧64*q≤l.length+72:=by
 have h:l.length % 64<64:=Nat.mod_lt _ (by omega)
 have h2:(l.length % 64+padP (l.length % 64)) % 64=56:=by
  have h3:=padP_le h
  have:=(padP_iff (k:=padP (l.length % 64)-1) h (by omega)).2 (by omega)
  rwa [show padP (l.length % 64)-1+1=padP (l.length % 64) by omega] at this
 have h3:=padP_le h
 refine ⟨(full l).length / 64,?_,?_,?_⟩ <;> rw [full_len] <;> omega
theorem sumL_full (l:Bs):sumL l=tab 32 (outW (pushL d0 (full l)).V):=by
 have h:(pushL d0 l).h=l.length % 64:=by rw [pushL_h l d0 (by decide)]; show (0+_) % 64=_; rw [Nat.zero_add]
 have e:endD (pushL d0 l) (BitVec.ofNat 64 l.length)=pushL d0 (full l):=by
  unfold endD
  rw [pushN_tab,h,full,pushL_app,padT]
 have e2:endV (pushL d0 l) (BitVec.ofNat 64 l.length)=outW (pushL d0 (full l)).V:=by
  funext i
  unfold endV
  rw [e]
 unfold sumL
 rw [e2]
def wordsAt (l:Bs) (k:Nat):Dg:=pushL d0 (l.take (64*k))
theorem wordsAt_h (l:Bs) (k:Nat) (h:64*k≤l.length):(wordsAt l k).h=0:=by
 unfold wordsAt
 rw [pushL_h _ _ (by decide),List.length_take]
 show (0+min (64*k) l.length) % 64=0
 omega
theorem wordsAt_succ (l:Bs) (k:Nat) (h:64*(k+1)≤l.length):(wordsAt l (k+1)).V=compress (wordsAt l k).V (fun i=>L l (64*k+i)):=by
 have e:l.take (64*(k+1))=l.take (64*k)++(l.drop (64*k)).take 64:=by
  rw [show 64*(k+1)=64*k+64 by omega,List.take_add]
 show (pushL d0 (l.take (64*(k+1)))).V=_
 rw [e,pushL_app]
 show (pushL (wordsAt l k) _).V=_
 rw [← pushN_of (wordsAt l k) (b:=fun i=>L l (64*k+i)) (n:=64),pushN_h0 _ _ (wordsAt_h l k (by omega))]
 ·simp only [List.length_take,List.length_drop]; omega
 ·intro i hi
  rw [L_take _ _ _ hi,L_drop]
theorem byte_in (x:BitVec 32) (p:BitVec 8):x*256#32+p.setWidth 32=x <<< 8 ||| p.setWidth 32:=by
 have h1:x*256#32=x <<< 8:=by
  apply BitVec.eq_of_toNat_eq
  rw [BitVec.toNat_mul,BitVec.toNat_shiftLeft,Nat.shiftLeft_eq]
  rfl
 rw [h1]
 apply BitVec.add_eq_or_of_and_eq_zero
 apply BitVec.eq_of_getLsbD_eq
 intro i hi
 simp only [BitVec.getLsbD_and,BitVec.getLsbD_shiftLeft,BitVec.getLsbD_setWidth,BitVec.getLsbD_zero]
 by_cases h:i<8
 ·simp [h]
 ·rw [BitVec.getLsbD_of_ge p i (by omega)]; simp
theorem four (p0 p1 p2 p3:BitVec 8):(((0#32*256#32+p0.setWidth 32)*256#32+p1.setWidth 32)*256#32+p2.setWidth 32)*256#32+p3.setWidth 32=p0.setWidth 32 <<< 24 ||| p1.setWidth 32 <<< 16 ||| p2.setWidth 32 <<< 8 ||| p3.setWidth 32:=by
 simp only [byte_in,BitVec.shiftLeft_or_distrib,← BitVec.shiftLeft_add,BitVec.zero_shiftLeft,BitVec.zero_or]
theorem not_xor (x:BitVec 32):x ^^^ 4294967295#32 = ~~~x:=by
 have:(4294967295#32)=BitVec.allOnes 32:=by decide
 rw [this]; exact BitVec.xor_allOnes
end Sha
end
section
namespace Sx
open Sha

def wArr (P:Nat→BitVec 8) (m j:Nat):BitVec 32:=if m≤16 then (if j<m then w0 P j else 0#32) else wS P (m-16) j
theorem wArr_16 (P:Nat→BitVec 8) (j:Nat):wArr P 16 j=wS P 0 j:=by unfold wArr; rw [if_pos (by omega)]; rfl
def acc (P:Nat→BitVec 8) (m:Nat):Nat→BitVec 32
 | 0=>0#32
 | r+1=>acc P m r*256#32+(P (4*m+r)).setWidth 32
theorem acc_4 (P:Nat→BitVec 8) (m:Nat):acc P m 4=w0 P m:=by
 simp only [acc]
 rw [four]
 rfl
theorem outW_at (V:Nat→BitVec 32) (m r:Nat) (hr:r<4):outW V (4*m+r)=(V m >>> (8*(3-r))).setWidth 8:=by
 unfold outW
 rw [show (4*m+r) / 4=m by omega,show (4*m+r) % 4=r by omega]
theorem four_out (V:Nat→BitVec 32) (m r:Nat) (hr:r<4):nthC [.w8 ((V m >>> 24).setWidth 8),.w8 ((V m >>> 16).setWidth 8),.w8 ((V m >>> 8).setWidth 8),.w8 ((V m).setWidth 8)] r=.w8 (outW V (4*m+r)):=by
 rw [outW_at V m r hr]
 have:r=0∨r=1∨r=2∨r=3:=by omega
 rcases this with rfl|rfl|rfl|rfl <;> rfl
theorem fn_right (x:BitVec 32) (n:Nat) (h:n<32) (h0:0<n):Fn Try.prog tds 30 [] [.c (.w32 x),.c (.int .i64 (n:Int))] (fun _=>True) (fun v hs=>v=.a (.c (.w32 (ror x n)))∧hs=[]):=by
 refine fn_of_body tds_ok follows_ Try.func30 rfl (t:=.a (.c (.w32 x))::.a (.c (.int .i64 (n:Int)))::anys (Try.f30.ntmps-2)) rfl (fun w r0 hr _=>?_)
 obtain rfl:r0=[]:=List.eq_nil_of_length_eq_zero hr
 refine ⟨none,[],[(0,true),(1,true),(2,true),(3,true),(4,true),(5,true),(6,true),(7,true),(8,true)],[],by kernel_rfl,?_⟩
 (repeat first|refine ⟨by omega,?_⟩|refine ⟨by decide,?_⟩|refine ⟨idx8 _,?_⟩|refine ⟨lt8 (Nat.le_refl _) _,?_⟩)
 refine ⟨.a (.c (.w32 (ror x n))),[],⟨[],⟨rfl,rfl,rfl⟩,?_,trivial⟩,rfl,rfl⟩
 show x >>> _ ||| x <<< _=x <<< (32-n) ||| x >>> n
 have e1:(n:Int).toNat=n:=by omega
 have e2:(32-(n:Int)).toNat=32-n:=by omega
 rw [e1,e2,BitVec.or_comm]
theorem nthC_w32:∀ (l:List (BitVec 32)) (j:Nat),j<l.length→nthC (l.map SC.w32) j=.w32 (l.getD j 0)
 | [],_,h=>absurd h (by simp)
 | x::l,0,_=>rfl
 | x::l,j+1,h=>nthC_w32 l j (by simpa using h)
set_option maxRecDepth 20000 in
theorem fn_rounds:Fn Try.prog tds 29 [] [] (fun _=>True) (fun v hs=>v=.a (.c (.sl 0 0 0 64 64))∧hs=[[.row 64 fun i=>.w32 (steps i)]]):=by
 refine fn_of_body tds_ok follows_ Try.func29 rfl (t:=anys (Try.f29.ntmps)) rfl (fun w r0 hr _=>?_)
 obtain rfl:r0=[]:=List.eq_nil_of_length_eq_zero hr
 refine ⟨.a (.c (.sl 0 0 0 64 64)),[[.row 64 fun i=>.w32 (steps i)]],⟨[0],⟨rfl,rfl,rfl⟩,?_⟩,rfl,rfl⟩
 (repeat first|exact trivial|refine ⟨rfl,?_⟩|refine ⟨fun _ _=>⟨rfl,trivial⟩,?_⟩|refine ⟨by omega,?_⟩)
 refine ⟨fun j hj=>?_,trivial⟩
 refine eqC_w32 ((nthC_w32 (stepsL.map (BitVec.ofNat 32)) j hj).trans ?_)
 unfold steps
 rw [List.getD_eq_getElem?_getD,List.getElem?_map,List.getD_eq_getElem?_getD]
 cases stepsL[j]? <;> rfl
set_option maxHeartbeats 4000000 in
set_option maxRecDepth 20000 in
theorem fn_rsum (z:Bool) (N o cb:Nat) (l:Bs) (hN:o+l.length≤N) (hc:l.length≤cb) (hz:z=true→l=[]) (hl:l.length<1099511627776) :
  FnR Try.prog tds 18 1 [bts z N o l.length (L l)] [.c (.sn z 0 0 o l.length cb)] (fun _=>True)
   (fun x hs=>∃ c,x=.a (.c (.sl 1 0 0 32 c))∧hs=[bts z N o l.length (L l),[.row c (bytesF 32 (L (sumL l)))]]∧32≤c):=by
 refine fn_of_body tds_ok follows_ Try.func18 rfl (t:=.a (.c (.sn z 0 0 o l.length cb))::anys 312) rfl (fun w r0 hr _=>?_)
 obtain ⟨x0,rfl⟩:=List.length_eq_one_iff.1 hr
 have hfull:=full_len l
 have hpl:=padP_le (show l.length % 64<64 from Nat.mod_lt _ (by omega))
 obtain ⟨Q,hQ,hQ1,hQ2⟩:=full_64 l
 have hLl:∀ i,i<l.length→L (full l) i=L l i:=fun i hi=>L_app1 hi
 have hLp:∀ i,L (full l) (l.length+i)=L (padT l.length) i:=fun i=>L_app2
 have hfirst:∀ j,j<8→nthC ((firstL.map (BitVec.ofNat 32)).map SC.w32) j=.w32 (first j):=fun j hj=>(nthC_w32 (firstL.map (BitVec.ofNat 32)) j hj).trans (by
  unfold first
  rw [List.getD_eq_getElem?_getD,List.getElem?_map,List.getD_eq_getElem?_getD]
  cases firstL[j]? <;> rfl)
 have hp0:L (padT l.length) 0=128#8:=by unfold padT; rw [L_tab (by omega)]; rfl
 have hp1:∀ i,0<i→i<padP (l.length % 64)→L (padT l.length) i=0#8:=fun i h1 h2=>by unfold padT; rw [L_tab (by omega)]; unfold padB; rw [if_neg (by omega),if_pos h2]
 have hp2:∀ i,i<8→L (padT l.length) (padP (l.length % 64)+i)=((BitVec.ofNat 64 l.length*8#64) >>> (8*(7-i))).setWidth 8:=fun i h1=>by
  unfold padT; rw [L_tab (by omega)]; unfold padB; rw [if_neg (by omega),if_neg (by omega),Nat.add_sub_cancel_left]
 obtain ⟨p,hp⟩:∃ p,padP (l.length % 64)=p:=⟨_,rfl⟩
 have hpi:=fun k hk=>padP_iff (k:=k) (show l.length % 64<64 from Nat.mod_lt _ (by omega)) hk
 rw [hp] at hpl hp1 hp2 hpi hfull
 have hsrc:∀ (c':Nat),l.length≤c'→∀ g:Nat→SC,(∀ i,i<l.length→g i=.w8 (L l i))→∀ i,i<l.length→appF (nthC []) 0 (scale 0 (0+1)) (scale l.length (0+1)) g i=.w8 (L (full l) i):=fun c' hc' g hg i hi=>by
  unfold appF
  rw [if_neg (by simp [scale]),if_pos (by simpa [scale] using hi),hLl i hi,← hg i hi]
  rfl
 (repeat first|refine ⟨by omega,?_⟩|refine ⟨by decide,?_⟩|refine ⟨idx8 _,?_⟩|refine ⟨lt8 (Nat.le_refl _) _,?_⟩)
 refine sn_bts (N:=N) (b:=L l) ?_ hN (fun h=>by rw [hz h]; rfl) (fun g hg=>?_)
 ·rfl
 refine ⟨⟨by decide,by simp [scale],by show _*1≤_; omega⟩,fun c1 hc1=>?_⟩
 refine ⟨by decide,⟨by omega,by simp only [scale]; omega,by show _*1≤_; omega⟩,fun c2 hc2=>?_⟩
 have hx1:∀ i,i<0+l.length+1→appF (appF (nthC []) 0 (scale 0 (0+1)) (scale l.length (0+1)) g) 0 (scale (0+l.length) (0+1)) (scale 1 (0+1)) (nthC [SC.w8 128#8]) i=.w8 (L (full l) i):=by
  refine app1 (fun j hj=>?_) ?_
  ·exact hsrc c1 (by omega) g hg j (by omega)
  ·show SC.w8 128#8=_
   have:=hLp 0
   rw [Nat.add_zero] at this
   rw [Nat.zero_add,this,hp0]
 refine .inl ⟨Nat × Nat,fun (k,c)=>⟨[.any,.any,.any,.a (.c (.sl 1 0 0 8 8)),.a (.c (.w64 ((BitVec.ofNat 64 l.length*8#64)))),.a (.c (.sl 2 0 0 (l.length+1+k) c)),.any,.any,.any,.any,.any,.any,.any,.any,.any,.any,.any,.any,.any,.any,.any,.any,.any,.any,.any,.any,.any,.any,.any,.any,.any,.any,.any,.any,.any,.any,.any,.any,.any,.any,.any,.any,.any,.any,.any,.any,.any,.any,.any,.any,.any,.any,.any,.any,.any,.any,.any,.any,.any,.any,.any,.any,.any,.any,.any,.any,.any,.any,.any,.any,.any,.any,.any,.any,.any,.any,.any,.any,.any,.any,.any,.any,.any,.any,.any,.any,.any,.any,.any,.any,.any,.any,.any,.any,.any,.any,.any,.any,.any,.any,.any,.any,.any,.any,.any,.any,.any,.any,.any,.any,.any,.any,.any,.any,.any,.any,.any,.any,.any,.any,.any,.any,.any,.any,.any,.any,.any,.any,.any,.any,.any,.any,.any,.any,.any,.any,.any,.any,.any,.any,.any,.any,.any,.any,.any,.any,.any,.any,.any,.any,.any,.any,.any,.any,.any,.any,.any,.any,.any,.any,.any,.any,.any,.any,.any,.any,.any,.any,.any,.any,.any,.any,.any,.any,.any,.any,.any,.any,.any,.any,.any,.any,.any,.any,.any,.any,.any,.any,.any,.any,.any,.any,.any,.any,.any,.any,.any,.any,.any,.any,.any,.any,.any,.any,.any,.any,.any,.any,.any,.any,.any,.any,.any,.any,.any,.any,.any,.any,.any,.any,.any,.any,.any,.any,.any,.any,.any,.any,.any,.any,.any,.any,.any,.any,.any,.any,.any,.any,.any,.any,.any,.any,.any,.any,.any,.any,.any,.any,.any,.any,.any,.any,.any,.any,.any,.any,.any,.any,.any,.any,.any,.any,.any,.any,.any,.any,.any,.any,.any,.any,.any,.any,.any,.any,.any,.any,.any,.any,.any,.any,.any,.any,.any,.any,.any,.any,.any,.any,.any,.any,.any,.any,.any,.any,.any,.any,.any,.any,.any,.any,.any,.any,.any,.any,.any,.any,.any,.any,.any,.any,.any,.any,.any],[bts z N o l.length (L l),[.row 8 fun i=>.w32 (first i)],[.row c (bytesF (l.length+1+k) (L (full l)))]]⟩,
  fun (k,c)=>k+1≤p∧l.length+1+k≤c,fun (k,_)=>64-k,⟨(0,c2),[0,1,5],⟨⟨rfl,rfl,rfl⟩,?_⟩,by omega,by omega⟩,fun (k,c) ⟨hk,hc⟩=>?_⟩
 ·(repeat first|exact trivial|refine ent1 ?_)
  refine eqC_bts ?_
  refine ⟨rfl,fun j hj=>eqC_w32 (hfirst j hj),?_⟩
  refine ⟨rfl,fun j hj=>eqC_bytes (fun i hi=>hx1 i (by omega)) j,?_⟩
  (repeat first|exact trivial|refine ent1 ?_)
 ·(repeat first|refine ⟨by omega,?_⟩|refine ⟨by decide,?_⟩|refine ⟨idx8 _,?_⟩|refine ⟨lt8 (Nat.le_refl _) _,?_⟩|refine ⟨rfl,?_⟩)
  have e1:((l.length+1+k:Nat):Int) % 64=(((l.length % 64+(k+1)) % 64:Nat):Int):=by omega
  refine ⟨fun h=>?_,fun h=>?_⟩
  ·have h1:¬ ((l.length+1+k:Nat):Int) % 64=56:=of_decide_eq_true h
   have h2:=mt (hpi k hk).2
   have h3:k+1<p:=by omega
   refine ⟨by decide,⟨by omega,by simp [scale],by show _*1≤_; omega⟩,fun c' hc'=>?_⟩
   refine ⟨(k+1,c'),[0,1,4],⟨⟨rfl,rfl,rfl⟩,?_⟩,by omega,by dsimp only; omega⟩
   (repeat first|exact trivial|refine ent1 ?_)
   refine eqC_bts ?_
   (repeat first|exact trivial|refine ent1 ?_)
   exact ⟨fun j hj=>eqC_bytes (app1 (fun _ h=>bytesF_lt h) (by show SC.w8 0#8=_; rw [Nat.add_assoc,hLp,hp1 _ (by omega) (by omega)])) j,trivial⟩
  ·have h1:((l.length+1+k:Nat):Int) % 64=56:=of_decide_eq_false' h
   have h2:k+1=p:=(hpi k hk).1 (by omega)
   refine .inl ⟨Nat × Nat,fun (k,c)=>⟨[.any,.any,.any,.a (.c (.sl 1 0 0 8 8)),.a (.c (.w64 ((BitVec.ofNat 64 l.length*8#64)))),.a (.c (.sl 2 0 0 (l.length+(p+k)) c)),.a (.c (.int .i64 (56-8*(k:Int)))),.any,.any,.any,.any,.any,.any,.any,.any,.any,.any,.any,.any,.any,.any,.any,.any,.any,.any,.any,.any,.any,.any,.any,.any,.any,.any,.any,.any,.any,.any,.any,.any,.any,.any,.any,.any,.any,.any,.any,.any,.any,.any,.any,.any,.any,.any,.any,.any,.any,.any,.any,.any,.any,.any,.any,.any,.any,.any,.any,.any,.any,.any,.any,.any,.any,.any,.any,.any,.any,.any,.any,.any,.any,.any,.any,.any,.any,.any,.any,.any,.any,.any,.any,.any,.any,.any,.any,.any,.any,.any,.any,.any,.any,.any,.any,.any,.any,.any,.any,.any,.any,.any,.any,.any,.any,.any,.any,.any,.any,.any,.any,.any,.any,.any,.any,.any,.any,.any,.any,.any,.any,.any,.any,.any,.any,.any,.any,.any,.any,.any,.any,.any,.any,.any,.any,.any,.any,.any,.any,.any,.any,.any,.any,.any,.any,.any,.any,.any,.any,.any,.any,.any,.any,.any,.any,.any,.any,.any,.any,.any,.any,.any,.any,.any,.any,.any,.any,.any,.any,.any,.any,.any,.any,.any,.any,.any,.any,.any,.any,.any,.any,.any,.any,.any,.any,.any,.any,.any,.any,.any,.any,.any,.any,.any,.any,.any,.any,.any,.any,.any,.any,.any,.any,.any,.any,.any,.any,.any,.any,.any,.any,.any,.any,.any,.any,.any,.any,.any,.any,.any,.any,.any,.any,.any,.any,.any,.any,.any,.any,.any,.any,.any,.any,.any,.any,.any,.any,.any,.any,.any,.any,.any,.any,.any,.any,.any,.any,.any,.any,.any,.any,.any,.any,.any,.any,.any,.any,.any,.any,.any,.any,.any,.any,.any,.any,.any,.any,.any,.any,.any,.any,.any,.any,.any,.any,.any,.any,.any,.any,.any,.any,.any,.any,.any,.any,.any,.any,.any,.any,.any,.any,.any,.any,.any,.any,.any,.any,.any,.any,.any,.any,.any,.any,.any,.any,.any],[bts z N o l.length (L l),[.row 8 fun i=>.w32 (first i)],[.row c (bytesF (l.length+(p+k)) (L (full l)))]]⟩,
    fun (k,c)=>k≤8∧l.length+(p+k)≤c,fun (k,_)=>8-k,⟨(0,c),[0,1,2],⟨⟨rfl,rfl,rfl⟩,?_⟩,by omega,by omega⟩,fun (k,c) ⟨hk,hc⟩=>⟨fun h=>?_,fun h=>?_⟩⟩
   ·(repeat first|exact trivial|refine ent1 ?_)
    refine eqC_bts ?_
    (repeat first|exact trivial|refine ent1 ?_)
    rw [show l.length+1+k=l.length+(p+0) by omega]
    (repeat first|exact trivial|refine ent1 ?_)
   ·have hlt:56-8*(k:Int) ≥ 0:=of_decide_eq_true h
    (repeat first|refine ⟨by omega,?_⟩|refine ⟨by decide,?_⟩|refine ⟨idx8 _,?_⟩|refine ⟨lt8 (Nat.le_refl _) _,?_⟩)
    refine ⟨⟨by omega,by simp only [scale]; omega,by show _*1≤_; omega⟩,fun c' hc'=>?_⟩
    refine ⟨⟨by omega,by omega⟩,(k+1,c'),[0,1,4],⟨⟨rfl,rfl,rfl⟩,?_⟩,by omega,by dsimp only; omega⟩
    (repeat first|exact trivial|refine ent1 ?_)
    refine eqC_bts ?_
    (repeat first|exact trivial|refine ent1 ?_)
    refine ⟨fun j hj=>eqC_bytes (app1 (fun _ h=>bytesF_lt h) ?_) j,trivial⟩
    show SC.w8 (((BitVec.ofNat 64 l.length*8#64) >>> (56-8*(k:Int)).toNat).setWidth 8)=_
    rw [hLp,hp2 _ (by omega),show (56-8*(k:Int)).toNat=8*(7-k) by omega]
   ·obtain rfl:k=8:=by have:¬ 56-8*(k:Int) ≥ 0:=of_decide_eq_false h; omega
    have hlen:l.length+(p+8)=64*Q:=by rw [← hQ,hfull]
    rw [hlen]
    refine ⟨by kernel_rfl,call_same fn_rounds [] rfl trivial trivial (fun _ _=>trivial) ?_⟩
    rintro x hs ⟨rfl,rfl⟩
    refine .inl ⟨Nat,fun k=>⟨[.any,.any,.any,.a (.c (.sl 1 0 0 8 8)),.any,.a (.c (.sl 2 0 0 (64*Q) c)),.any,.a (.c (.sl 3 0 0 64 64)),.a (.c (.int .i64 (((64*k:Nat):Int)))),.any,.any,.any,.any,.any,.any,.any,.any,.any,.any,.any,.any,.any,.any,.any,.any,.any,.any,.any,.any,.any,.any,.any,.any,.any,.any,.any,.any,.any,.any,.any,.any,.any,.any,.any,.any,.any,.any,.any,.any,.any,.any,.any,.any,.any,.any,.any,.any,.any,.any,.any,.any,.any,.any,.any,.any,.any,.any,.any,.any,.any,.any,.any,.any,.any,.any,.any,.any,.any,.any,.any,.any,.any,.any,.any,.any,.any,.any,.any,.any,.any,.any,.any,.any,.any,.any,.any,.any,.any,.any,.any,.any,.any,.any,.any,.any,.any,.any,.any,.any,.any,.any,.any,.any,.any,.any,.any,.any,.any,.any,.any,.any,.any,.any,.any,.any,.any,.any,.any,.any,.any,.any,.any,.any,.any,.any,.any,.any,.any,.any,.any,.any,.any,.any,.any,.any,.any,.any,.any,.any,.any,.any,.any,.any,.any,.any,.any,.any,.any,.any,.any,.any,.any,.any,.any,.any,.any,.any,.any,.any,.any,.any,.any,.any,.any,.any,.any,.any,.any,.any,.any,.any,.any,.any,.any,.any,.any,.any,.any,.any,.any,.any,.any,.any,.any,.any,.any,.any,.any,.any,.any,.any,.any,.any,.any,.any,.any,.any,.any,.any,.any,.any,.any,.any,.any,.any,.any,.any,.any,.any,.any,.any,.any,.any,.any,.any,.any,.any,.any,.any,.any,.any,.any,.any,.any,.any,.any,.any,.any,.any,.any,.any,.any,.any,.any,.any,.any,.any,.any,.any,.any,.any,.any,.any,.any,.any,.any,.any,.any,.any,.any,.any,.any,.any,.any,.any,.any,.any,.any,.any,.any,.any,.any,.any,.any,.any,.any,.any,.any,.any,.any,.any,.any,.any,.any,.any,.any,.any,.any,.any,.any,.any,.any,.any,.any,.any,.any,.any,.any,.any,.any,.any,.any,.any,.any,.any,.any,.any,.any,.any,.any,.any,.any,.any],[bts z N o l.length (L l),[.row 8 fun i=>.w32 ((wordsAt (full l) k).V i)],[.row c (bytesF (64*Q) (L (full l)))],[.row 64 fun i=>.w32 (steps i)]]⟩,
     fun k=>k≤Q,fun k=>Q-k,⟨0,[0,1,2,3],⟨⟨rfl,rfl,rfl⟩,?_⟩,by omega⟩,fun k hk=>⟨fun h=>?_,fun h=>?_⟩⟩
    ·(repeat first|exact trivial|refine ent1 ?_)
     refine eqC_bts ?_
     (repeat first|exact trivial|refine ent1 ?_)
    ·have hlt:k<Q:=by have:((64*k:Nat):Int)<((64*Q:Nat):Int):=of_decide_eq_true h; omega
     obtain ⟨V,hV⟩:∃ V,(wordsAt (full l) k).V=V:=⟨_,rfl⟩
     obtain ⟨P,hP⟩:∃ P,(fun i=>L (full l) (64*k+i))=P:=⟨_,rfl⟩
     have hP':∀ i,L (full l) (64*k+i)=P i:=fun i=>by rw [← hP]
     have hnext:(wordsAt (full l) (k+1)).V=compress V P:=by rw [wordsAt_succ _ _ (by omega),hV,hP]
     rw [hV]
     (repeat first|refine ⟨by omega,?_⟩|refine ⟨by decide,?_⟩|refine ⟨idx8 _,?_⟩|refine ⟨lt8 (Nat.le_refl _) _,?_⟩|refine ⟨rfl,?_⟩)
     refine .inl ⟨Nat,fun m=>⟨[.any,.any,.any,.a (.c (.sl 1 0 0 8 8)),.any,.a (.c (.sl 2 0 0 (64*Q) c)),.any,.a (.c (.sl 3 0 0 64 64)),.a (.c (.int .i64 (((64*k:Nat):Int)))),.a (.c (.sl 4 0 0 64 64)),.a (.c (.int .i64 (↑m))),.any,.any,.any,.any,.any,.any,.any,.any,.any,.any,.any,.any,.any,.any,.any,.any,.any,.any,.any,.any,.any,.any,.any,.any,.any,.any,.any,.any,.any,.any,.any,.any,.any,.any,.any,.any,.any,.any,.any,.any,.any,.any,.any,.any,.any,.any,.any,.any,.any,.any,.any,.any,.any,.any,.any,.any,.any,.any,.any,.any,.any,.any,.any,.any,.any,.any,.any,.any,.any,.any,.any,.any,.any,.any,.any,.any,.any,.any,.any,.any,.any,.any,.any,.any,.any,.any,.any,.any,.any,.any,.any,.any,.any,.any,.any,.any,.any,.any,.any,.any,.any,.any,.any,.any,.any,.any,.any,.any,.any,.any,.any,.any,.any,.any,.any,.any,.any,.any,.any,.any,.any,.any,.any,.any,.any,.any,.any,.any,.any,.any,.any,.any,.any,.any,.any,.any,.any,.any,.any,.any,.any,.any,.any,.any,.any,.any,.any,.any,.any,.any,.any,.any,.any,.any,.any,.any,.any,.any,.any,.any,.any,.any,.any,.any,.any,.any,.any,.any,.any,.any,.any,.any,.any,.any,.any,.any,.any,.any,.any,.any,.any,.any,.any,.any,.any,.any,.any,.any,.any,.any,.any,.any,.any,.any,.any,.any,.any,.any,.any,.any,.any,.any,.any,.any,.any,.any,.any,.any,.any,.any,.any,.any,.any,.any,.any,.any,.any,.any,.any,.any,.any,.any,.any,.any,.any,.any,.any,.any,.any,.any,.any,.any,.any,.any,.any,.any,.any,.any,.any,.any,.any,.any,.any,.any,.any,.any,.any,.any,.any,.any,.any,.any,.any,.any,.any,.any,.any,.any,.any,.any,.any,.any,.any,.any,.any,.any,.any,.any,.any,.any,.any,.any,.any,.any,.any,.any,.any,.any,.any,.any,.any,.any,.any,.any,.any,.any,.any,.any,.any,.any,.any,.any,.any,.any,.any,.any,.any,.any,.any,.any,.any,.any],[bts z N o l.length (L l),[.row 8 fun i=>.w32 (V i)],[.row c (bytesF (64*Q) (L (full l)))],[.row 64 fun i=>.w32 (steps i)],[.row 64 fun j=>.w32 (wArr P m j)]]⟩,
      fun m=>m≤64,fun m=>64-m,⟨0,[0,1,2,3,4],⟨⟨rfl,rfl,rfl⟩,?_⟩,by omega⟩,fun m hm=>⟨fun h=>?_,fun h=>?_⟩⟩
     ·(repeat first|exact trivial|refine ent1 ?_)
      refine eqC_bts ?_
      (repeat first|exact trivial|refine ent1 ?_)
     ·have hlt:(m:Int)<64:=of_decide_eq_true h
      refine ⟨fun h=>?_,fun h=>?_⟩
      ·have hlt16:(m:Int)<16:=of_decide_eq_true h
       refine .inl ⟨Nat,fun r=>⟨[.any,.any,.any,.a (.c (.sl 1 0 0 8 8)),.any,.a (.c (.sl 2 0 0 (64*Q) c)),.any,.a (.c (.sl 3 0 0 64 64)),.a (.c (.int .i64 (((64*k:Nat):Int)))),.a (.c (.sl 4 0 0 64 64)),.a (.c (.int .i64 (↑m))),.a (.c (.int .i64 (↑r))),.any,.any,.any,.any,.any,.any,.any,.any,.any,.any,.any,.any,.any,.any,.any,.any,.any,.any,.any,.any,.any,.any,.any,.any,.any,.any,.any,.any,.any,.any,.any,.any,.any,.any,.any,.any,.any,.any,.any,.any,.any,.any,.any,.any,.any,.any,.any,.any,.any,.any,.any,.any,.any,.any,.any,.any,.any,.any,.any,.any,.any,.any,.any,.any,.any,.any,.any,.any,.any,.any,.any,.any,.any,.any,.any,.any,.any,.any,.any,.any,.any,.any,.any,.any,.any,.any,.any,.any,.any,.any,.any,.any,.any,.any,.any,.any,.any,.any,.any,.any,.any,.any,.any,.any,.any,.any,.any,.any,.any,.any,.any,.any,.any,.any,.any,.any,.any,.any,.any,.any,.any,.any,.any,.any,.any,.any,.any,.any,.any,.any,.any,.any,.any,.any,.any,.any,.any,.any,.any,.any,.any,.any,.any,.any,.any,.any,.any,.any,.any,.any,.any,.any,.any,.any,.any,.any,.any,.any,.any,.any,.any,.any,.any,.any,.any,.any,.any,.any,.any,.any,.any,.any,.any,.any,.any,.any,.any,.any,.any,.any,.any,.any,.any,.any,.any,.any,.any,.any,.any,.any,.any,.any,.any,.any,.any,.any,.any,.any,.any,.any,.any,.any,.any,.any,.any,.any,.any,.any,.any,.any,.any,.any,.any,.any,.any,.any,.any,.any,.any,.any,.any,.any,.any,.any,.any,.any,.any,.any,.any,.any,.any,.any,.any,.any,.any,.any,.any,.any,.any,.any,.any,.any,.any,.any,.any,.any,.any,.any,.any,.any,.any,.any,.any,.any,.any,.any,.any,.any,.any,.any,.any,.any,.any,.any,.any,.any,.any,.any,.any,.any,.any,.any,.any,.any,.any,.any,.any,.any,.any,.any,.any,.any,.any,.any,.any,.any,.any,.any,.any,.any,.any,.any,.any,.any,.any,.any,.any,.any,.any,.any,.any],[bts z N o l.length (L l),[.row 8 fun i=>.w32 (V i)],[.row c (bytesF (64*Q) (L (full l)))],[.row 64 fun i=>.w32 (steps i)],[.row 64 fun j=>.w32 (if j<m then w0 P j else if j=m then acc P m r else 0#32)]]⟩,
        fun r=>r≤4,fun r=>4-r,⟨0,[0,1,2,3,4],⟨⟨rfl,rfl,rfl⟩,?_⟩,by omega⟩,fun r hr=>⟨fun h=>?_,fun h=>?_⟩⟩
       ·(repeat first|exact trivial|refine ent1 ?_)
        refine eqC_bts ?_
        (repeat first|exact trivial|refine ent1 ?_)
        refine ⟨fun j hj=>eqC_w32 (congrArg SC.w32 ?_),trivial⟩
        unfold wArr
        rw [if_pos (by omega)]
        by_cases h1:j<m
        ·rw [if_pos h1,if_pos h1]
        ·rw [if_neg h1,if_neg h1]
         by_cases h2:j=m
         ·rw [if_pos h2]; rfl
         ·rw [if_neg h2]
       ·have hlt4:(r:Int)<4:=of_decide_eq_true h
        refine ⟨none,[],[(0,true),(1,true),(2,true),(3,true),(4,true),(5,true),(6,true),(7,true),(8,true),(9,true),(10,true),(11,true),(12,true),(13,true),(14,true),(15,true),(16,true),(17,true),(18,true)],[19],by kernel_rfl,?_⟩
        (repeat first|refine And.intro (by omega) ?_|refine And.intro (by decide) ?_|(with_reducible refine frc_parts (by first|omega|decide) ?_)|(with_reducible refine frc_bytesL (by first|omega|decide) ?_)|refine And.intro rfl ?_)
        refine ⟨r+1,[0,1,2,3,4],⟨⟨rfl,rfl,rfl⟩,?_⟩,by first|omega|(dsimp only; omega),by first|omega|(dsimp only; omega)⟩
        (repeat first|exact trivial|refine ent1 ?_)
        refine eqC_bts ?_
        (repeat first|exact trivial|refine ent1 ?_)
        have e0:(m:Int).toNat+0=m:=by omega
        have e5:(((64*k:Nat):Int)+4*(m:Int)+(r:Int)).toNat+0=64*k+(4*m+r):=by omega
        refine ⟨fun j hj=>eqC_w32 ?_,trivial⟩
        rw [e0,e5,hP']
        unfold upd
        by_cases h2:j=m
        ·subst h2
         rw [if_pos rfl]
         exact congrArg SC.w32 (by rw [if_neg (Nat.lt_irrefl j),if_pos rfl,if_neg (Nat.lt_irrefl j),if_pos rfl]; rfl)
        ·rw [if_neg h2]
         exact congrArg SC.w32 (by simp only [if_neg h2])
       ·obtain rfl:r=4:=by have:¬ (r:Int)<4:=of_decide_eq_false h; have hr:r≤4:=hr; omega
        refine ⟨⟨by omega,by omega⟩,m+1,[0,1,2,3,4],⟨⟨rfl,rfl,rfl⟩,?_⟩,by first|omega|(dsimp only; omega),by first|omega|(dsimp only; omega)⟩
        (repeat first|exact trivial|refine ent1 ?_)
        refine eqC_bts ?_
        (repeat first|exact trivial|refine ent1 ?_)
        refine ⟨fun j hj=>eqC_w32 (congrArg SC.w32 ?_),trivial⟩
        unfold wArr
        rw [acc_4,if_pos (show m+1≤16 by omega)]
        by_cases h1:j<m
        ·rw [if_pos h1,if_pos (by omega)]
        ·rw [if_neg h1]
         by_cases h2:j=m
         ·rw [if_pos h2,if_pos (by omega),h2]
         ·rw [if_neg h2,if_neg (by omega)]
      ·have hge16:¬ (m:Int)<16:=of_decide_eq_false h
       obtain ⟨n,rfl⟩:∃ n,m=16+n:=⟨m-16,by omega⟩
       have hW:∀ j,wArr P (16+n) j=wS P n j:=fun j=>by
        by_cases h0:n=0
        ·subst h0; exact wArr_16 P j
        ·unfold wArr; rw [if_neg (by omega),Nat.add_sub_cancel_left]
       simp only [hW]
       refine ⟨none,[],[(0,true),(1,true),(2,true),(3,true),(4,true),(6,true),(7,true),(8,true),(9,true),(10,true),(13,true),(14,true),(15,true),(16,true),(17,true),(18,true),(5,false),(11,false),(12,true),(19,true),(20,true)],[],by kernel_rfl,?_⟩
       (repeat first|refine And.intro (by omega) ?_|refine And.intro (by decide) ?_|(with_reducible refine frc_parts (by first|omega|decide) ?_)|(with_reducible refine frc_bytesL (by first|omega|decide) ?_)|refine And.intro rfl ?_)
       refine call_same (fn_right _ 7 (by omega) (by omega)) [] rfl ⟨rfl,rfl,trivial⟩ trivial (fun _ _=>trivial) ?_
       rintro v hs ⟨rfl,rfl⟩
       (repeat first|refine And.intro (by omega) ?_|refine And.intro (by decide) ?_|(with_reducible refine frc_parts (by first|omega|decide) ?_)|(with_reducible refine frc_bytesL (by first|omega|decide) ?_)|refine And.intro rfl ?_)
       refine call_same (fn_right _ 18 (by omega) (by omega)) [] rfl ⟨rfl,rfl,trivial⟩ trivial (fun _ _=>trivial) ?_
       rintro v hs ⟨rfl,rfl⟩
       (repeat first|refine And.intro (by omega) ?_|refine And.intro (by decide) ?_|(with_reducible refine frc_parts (by first|omega|decide) ?_)|(with_reducible refine frc_bytesL (by first|omega|decide) ?_)|refine And.intro rfl ?_)
       refine ⟨none,[],[(0,true),(1,true),(2,true),(3,true),(4,true),(6,true),(7,true),(8,true),(9,true),(10,true),(13,true),(14,true),(15,true),(16,true),(17,true),(18,true),(5,false),(11,false),(12,true),(19,true),(20,true)],[],by kernel_rfl,?_⟩
       (repeat first|refine And.intro (by omega) ?_|refine And.intro (by decide) ?_|(with_reducible refine frc_parts (by first|omega|decide) ?_)|(with_reducible refine frc_bytesL (by first|omega|decide) ?_)|refine And.intro rfl ?_)
       refine call_same (fn_right _ 17 (by omega) (by omega)) [] rfl ⟨rfl,rfl,trivial⟩ trivial (fun _ _=>trivial) ?_
       rintro v hs ⟨rfl,rfl⟩
       (repeat first|refine And.intro (by omega) ?_|refine And.intro (by decide) ?_|(with_reducible refine frc_parts (by first|omega|decide) ?_)|(with_reducible refine frc_bytesL (by first|omega|decide) ?_)|refine And.intro rfl ?_)
       refine call_same (fn_right _ 19 (by omega) (by omega)) [] rfl ⟨rfl,rfl,trivial⟩ trivial (fun _ _=>trivial) ?_
       rintro v hs ⟨rfl,rfl⟩
       (repeat first|refine And.intro (by omega) ?_|refine And.intro (by decide) ?_|(with_reducible refine frc_parts (by first|omega|decide) ?_)|(with_reducible refine frc_bytesL (by first|omega|decide) ?_)|refine And.intro rfl ?_)
       refine ⟨none,[],[(0,true),(1,true),(2,true),(3,true),(4,true),(5,true),(6,true),(7,true),(8,true),(9,true),(10,true),(11,true),(12,true),(13,true),(14,true),(15,true),(16,true),(17,true)],[18],by kernel_rfl,?_⟩
       (repeat first|refine And.intro (by omega) ?_|refine And.intro (by decide) ?_|(with_reducible refine frc_parts (by first|omega|decide) ?_)|(with_reducible refine frc_bytesL (by first|omega|decide) ?_)|refine And.intro rfl ?_)
       refine ⟨16+(n+1),[0,1,2,3,4],⟨⟨rfl,rfl,rfl⟩,?_⟩,by first|omega|(dsimp only; omega),by first|omega|(dsimp only; omega)⟩
       (repeat first|exact trivial|refine ent1 ?_)
       refine eqC_bts ?_
       (repeat first|exact trivial|refine ent1 ?_)
       have hW':∀ j,wArr P (16+(n+1)) j=wS P (n+1) j:=fun j=>by unfold wArr; rw [if_neg (by omega),Nat.add_sub_cancel_left]
       have j0:((16+n:Nat):Int).toNat+0=16+n:=by omega
       have j1:(((16+n:Nat):Int)-16).toNat+0=n:=by omega
       have j2:(((16+n:Nat):Int)-15).toNat+0=n+1:=by omega
       have j3:(((16+n:Nat):Int)-7).toNat+0=n+9:=by omega
       have j4:(((16+n:Nat):Int)-2).toNat+0=n+14:=by omega
       refine ⟨fun j hj=>?_,trivial⟩
       rw [j0,j1,j2,j3,j4]
       show eqC _ _ (.w32 (wArr P (16+(n+1)) j)) True
       rw [hW']
       refine eqC_w32 ((upd_w32 (g:=fun i=>.w32 (wS P (n+1) i)) ?_ ?_ j).trans rfl)
       ·simp only [wS]
        rfl
       ·intro i hi
        simp only [wS,if_neg hi]
     ·obtain rfl:m=64:=by have:¬ (m:Int)<64:=of_decide_eq_false h; have hm:m≤64:=hm; omega
      obtain ⟨W,hW⟩:∃ W,wS P 48=W:=⟨_,rfl⟩
      have hWA:∀ j,wArr P 64 j=W j:=fun j=>by unfold wArr; rw [if_neg (by omega),← hW]
      simp only [hWA]
      refine ⟨by decide,⟨by decide,by decide,by decide⟩,fun c8 hc8=>?_⟩
      refine .inl ⟨Nat,fun m=>⟨[.any,.any,.any,.a (.c (.sl 1 0 0 8 8)),.any,.a (.c (.sl 2 0 0 (64*Q) c)),.any,.a (.c (.sl 3 0 0 64 64)),.a (.c (.int .i64 (((64*k:Nat):Int)))),.a (.c (.sl 4 0 0 64 64)),.any,.any,.any,.any,.a (.c (.sl 5 0 0 8 c8)),.a (.c (.int .i64 (↑m))),.any,.any,.any,.any,.any,.any,.any,.any,.any,.any,.any,.any,.any,.any,.any,.any,.any,.any,.any,.any,.any,.any,.any,.any,.any,.any,.any,.any,.any,.any,.any,.any,.any,.any,.any,.any,.any,.any,.any,.any,.any,.any,.any,.any,.any,.any,.any,.any,.any,.any,.any,.any,.any,.any,.any,.any,.any,.any,.any,.any,.any,.any,.any,.any,.any,.any,.any,.any,.any,.any,.any,.any,.any,.any,.any,.any,.any,.any,.any,.any,.any,.any,.any,.any,.any,.any,.any,.any,.any,.any,.any,.any,.any,.any,.any,.any,.any,.any,.any,.any,.any,.any,.any,.any,.any,.any,.any,.any,.any,.any,.any,.any,.any,.any,.any,.any,.any,.any,.any,.any,.any,.any,.any,.any,.any,.any,.any,.any,.any,.any,.any,.any,.any,.any,.any,.any,.any,.any,.any,.any,.any,.any,.any,.any,.any,.any,.any,.any,.any,.any,.any,.any,.any,.any,.any,.any,.any,.any,.any,.any,.any,.any,.any,.any,.any,.any,.any,.any,.any,.any,.any,.any,.any,.any,.any,.any,.any,.any,.any,.any,.any,.any,.any,.any,.any,.any,.any,.any,.any,.any,.any,.any,.any,.any,.any,.any,.any,.any,.any,.any,.any,.any,.any,.any,.any,.any,.any,.any,.any,.any,.any,.any,.any,.any,.any,.any,.any,.any,.any,.any,.any,.any,.any,.any,.any,.any,.any,.any,.any,.any,.any,.any,.any,.any,.any,.any,.any,.any,.any,.any,.any,.any,.any,.any,.any,.any,.any,.any,.any,.any,.any,.any,.any,.any,.any,.any,.any,.any,.any,.any,.any,.any,.any,.any,.any,.any,.any,.any,.any,.any,.any,.any,.any,.any,.any,.any,.any,.any,.any,.any,.any,.any,.any,.any,.any,.any,.any,.any,.any,.any,.any,.any,.any,.any,.any,.any,.any],[bts z N o l.length (L l),[.row 8 fun i=>.w32 (V i)],[.row c (bytesF (64*Q) (L (full l)))],[.row 64 fun i=>.w32 (steps i)],[.row 64 fun i=>.w32 (W i)],[.row c8 (partsF 8 fun i=>.w32 (vR W V m i))]]⟩,
       fun m=>m≤64,fun m=>64-m,⟨0,[0,1,2,3,4,6],⟨⟨rfl,rfl,rfl⟩,?_⟩,by omega⟩,fun m hm=>⟨fun h=>?_,fun h=>?_⟩⟩
      ·(repeat first|exact trivial|refine ent1 ?_)
       refine eqC_bts ?_
       (repeat first|exact trivial|refine ent1 ?_)
       refine ⟨fun j hj=>eqC_parts (fun i hi=>?_) j,trivial⟩
       unfold appF
       rw [if_neg (by simp [scale]),if_pos (by simpa [scale] using hi)]
       exact ⟨rfl,trivial⟩
      ·have hlt:(m:Int)<64:=of_decide_eq_true h
       obtain ⟨v,hv⟩:∃ v,vR W V m=v:=⟨_,rfl⟩
       rw [hv]
       refine ⟨none,[],[(0,true),(1,true),(2,true),(4,true),(5,true),(6,true),(9,true),(10,true),(11,true),(3,false),(7,false),(8,true),(12,false),(13,true),(14,true)],[],by kernel_rfl,?_⟩
       (repeat first|refine And.intro (by omega) ?_|refine And.intro (by decide) ?_|(with_reducible refine frc_parts (by first|omega|decide) ?_)|(with_reducible refine frc_bytesL (by first|omega|decide) ?_)|refine And.intro rfl ?_)
       refine call_same (fn_right _ 6 (by omega) (by omega)) [] rfl ⟨rfl,rfl,trivial⟩ trivial (fun _ _=>trivial) ?_
       rintro x hs ⟨rfl,rfl⟩
       (repeat first|refine And.intro (by omega) ?_|refine And.intro (by decide) ?_|(with_reducible refine frc_parts (by first|omega|decide) ?_)|(with_reducible refine frc_bytesL (by first|omega|decide) ?_)|refine And.intro rfl ?_)
       refine call_same (fn_right _ 11 (by omega) (by omega)) [] rfl ⟨rfl,rfl,trivial⟩ trivial (fun _ _=>trivial) ?_
       rintro x hs ⟨rfl,rfl⟩
       (repeat first|refine And.intro (by omega) ?_|refine And.intro (by decide) ?_|(with_reducible refine frc_parts (by first|omega|decide) ?_)|(with_reducible refine frc_bytesL (by first|omega|decide) ?_)|refine And.intro rfl ?_)
       refine call_same (fn_right _ 25 (by omega) (by omega)) [] rfl ⟨rfl,rfl,trivial⟩ trivial (fun _ _=>trivial) ?_
       rintro x hs ⟨rfl,rfl⟩
       (repeat first|refine And.intro (by omega) ?_|refine And.intro (by decide) ?_|(with_reducible refine frc_parts (by first|omega|decide) ?_)|(with_reducible refine frc_bytesL (by first|omega|decide) ?_)|refine And.intro rfl ?_)
       refine ⟨none,[],[(0,true),(1,true),(2,true),(3,true),(4,true),(5,true),(6,true),(7,true),(8,true),(9,true),(10,true),(11,true),(12,true),(13,true),(14,true),(15,true),(16,true)],[],by kernel_rfl,?_⟩
       (repeat first|refine And.intro (by omega) ?_|refine And.intro (by decide) ?_|(with_reducible refine frc_parts (by first|omega|decide) ?_)|(with_reducible refine frc_bytesL (by first|omega|decide) ?_)|refine And.intro rfl ?_)
       refine ⟨none,[],[(0,true),(1,true),(2,true),(3,true),(4,true),(5,true),(6,true),(7,true),(8,true),(9,true),(10,true),(11,true),(12,true),(13,true),(14,true),(15,true),(16,true),(17,true)],[],by kernel_rfl,?_⟩
       (repeat first|refine And.intro (by omega) ?_|refine And.intro (by decide) ?_|(with_reducible refine frc_parts (by first|omega|decide) ?_)|(with_reducible refine frc_bytesL (by first|omega|decide) ?_)|refine And.intro rfl ?_)
       refine ⟨none,[],[(0,true),(1,true),(2,true),(4,true),(5,true),(6,true),(9,true),(10,true),(11,true),(3,false),(7,false),(8,true),(12,false),(13,true),(14,true)],[],by kernel_rfl,?_⟩
       (repeat first|refine And.intro (by omega) ?_|refine And.intro (by decide) ?_|(with_reducible refine frc_parts (by first|omega|decide) ?_)|(with_reducible refine frc_bytesL (by first|omega|decide) ?_)|refine And.intro rfl ?_)
       refine call_same (fn_right _ 2 (by omega) (by omega)) [] rfl ⟨rfl,rfl,trivial⟩ trivial (fun _ _=>trivial) ?_
       rintro x hs ⟨rfl,rfl⟩
       (repeat first|refine And.intro (by omega) ?_|refine And.intro (by decide) ?_|(with_reducible refine frc_parts (by first|omega|decide) ?_)|(with_reducible refine frc_bytesL (by first|omega|decide) ?_)|refine And.intro rfl ?_)
       refine call_same (fn_right _ 13 (by omega) (by omega)) [] rfl ⟨rfl,rfl,trivial⟩ trivial (fun _ _=>trivial) ?_
       rintro x hs ⟨rfl,rfl⟩
       (repeat first|refine And.intro (by omega) ?_|refine And.intro (by decide) ?_|(with_reducible refine frc_parts (by first|omega|decide) ?_)|(with_reducible refine frc_bytesL (by first|omega|decide) ?_)|refine And.intro rfl ?_)
       refine call_same (fn_right _ 22 (by omega) (by omega)) [] rfl ⟨rfl,rfl,trivial⟩ trivial (fun _ _=>trivial) ?_
       rintro x hs ⟨rfl,rfl⟩
       (repeat first|refine And.intro (by omega) ?_|refine And.intro (by decide) ?_|(with_reducible refine frc_parts (by first|omega|decide) ?_)|(with_reducible refine frc_bytesL (by first|omega|decide) ?_)|refine And.intro rfl ?_)
       refine ⟨none,[],[(0,true),(1,true),(2,true),(3,true),(4,true),(5,true),(6,true),(7,true),(8,true),(9,true),(10,true),(11,true),(12,true),(13,true),(14,true),(15,true),(16,true),(17,true),(18,true),(19,true),(20,true),(21,true),(22,true),(23,true)],[],by kernel_rfl,?_⟩
       (repeat first|refine And.intro (by omega) ?_|refine And.intro (by decide) ?_|(with_reducible refine frc_parts (by first|omega|decide) ?_)|(with_reducible refine frc_bytesL (by first|omega|decide) ?_)|refine And.intro rfl ?_)
       refine .inl ⟨Nat,fun s=>⟨[.any,.any,.any,.a (.c (.sl 1 0 0 8 8)),.any,.a (.c (.sl 2 0 0 (64*Q) c)),.any,.a (.c (.sl 3 0 0 64 64)),.a (.c (.int .i64 (((64*k:Nat):Int)))),.a (.c (.sl 4 0 0 64 64)),.any,.any,.any,.any,.a (.c (.sl 5 0 0 8 c8)),.a (.c (.int .i64 (↑m))),.any,.any,.a (.c (.w32 ((Sha.one v (steps m) (W m))))),.a (.c (.w32 ((ror (v 0) 2 ^^^ ror (v 0) 13 ^^^ ror (v 0) 22)))),.a (.c (.w32 (((v 0 &&& v 1) ^^^ (v 0 &&& v 2) ^^^ (v 1 &&& v 2))))),.a (.c (.int .i64 (7-(s:Int)))),.any,.any,.any,.any,.any,.any,.any,.any,.any,.any,.any,.any,.any,.any,.any,.any,.any,.any,.any,.any,.any,.any,.any,.any,.any,.any,.any,.any,.any,.any,.any,.any,.any,.any,.any,.any,.any,.any,.any,.any,.any,.any,.any,.any,.any,.any,.any,.any,.any,.any,.any,.any,.any,.any,.any,.any,.any,.any,.any,.any,.any,.any,.any,.any,.any,.any,.any,.any,.any,.any,.any,.any,.any,.any,.any,.any,.any,.any,.any,.any,.any,.any,.any,.any,.any,.any,.any,.any,.any,.any,.any,.any,.any,.any,.any,.any,.any,.any,.any,.any,.any,.any,.any,.any,.any,.any,.any,.any,.any,.any,.any,.any,.any,.any,.any,.any,.any,.any,.any,.any,.any,.any,.any,.any,.any,.any,.any,.any,.any,.any,.any,.any,.any,.any,.any,.any,.any,.any,.any,.any,.any,.any,.any,.any,.any,.any,.any,.any,.any,.any,.any,.any,.any,.any,.any,.any,.any,.any,.any,.any,.any,.any,.any,.any,.any,.any,.any,.any,.any,.any,.any,.any,.any,.any,.any,.any,.any,.any,.any,.any,.any,.any,.any,.any,.any,.any,.any,.any,.any,.any,.any,.any,.any,.any,.any,.any,.any,.any,.any,.any,.any,.any,.any,.any,.any,.any,.any,.any,.any,.any,.any,.any,.any,.any,.any,.any,.any,.any,.any,.any,.any,.any,.any,.any,.any,.any,.any,.any,.any,.any,.any,.any,.any,.any,.any,.any,.any,.any,.any,.any,.any,.any,.any,.any,.any,.any,.any,.any,.any,.any,.any,.any,.any,.any,.any,.any,.any,.any,.any,.any,.any,.any,.any,.any,.any,.any,.any,.any,.any,.any,.any,.any,.any,.any,.any,.any,.any,.any,.any,.any,.any,.any,.any,.any,.any,.any,.any,.any,.any,.any,.any],[bts z N o l.length (L l),[.row 8 fun i=>.w32 (V i)],[.row c (bytesF (64*Q) (L (full l)))],[.row 64 fun i=>.w32 (steps i)],[.row 64 fun i=>.w32 (W i)],[.row c8 (partsF 8 fun i=>.w32 (if 7-s<i then v (i-1) else v i))]]⟩,
        fun s=>s≤7,fun s=>7-s,⟨0,[0,1,2,3,4,5],⟨⟨rfl,rfl,rfl⟩,?_⟩,by omega⟩,fun s hs=>⟨fun h=>?_,fun h=>?_⟩⟩
       ·(repeat first|exact trivial|refine ent1 ?_)
        refine ⟨?_,?_⟩
        ·unfold Sha.one
         rw [← not_xor]
         rfl
        ·(repeat first|exact trivial|refine ent1 ?_)
         refine eqC_bts ?_
         (repeat first|exact trivial|refine ent1 ?_)
         refine ⟨fun j hj=>eqC_parts (fun i hi=>?_) j,trivial⟩
         unfold partsF
         rw [if_pos hi,if_neg (by omega)]
         exact ⟨rfl,trivial⟩
       ·have hgt:7-(s:Int) > 0:=of_decide_eq_true h
        (repeat first|refine And.intro (by omega) ?_|refine And.intro (by decide) ?_|(with_reducible refine frc_parts (by first|omega|decide) ?_)|(with_reducible refine frc_bytesL (by first|omega|decide) ?_)|refine And.intro rfl ?_)
        refine ⟨s+1,[0,1,2,3,4,5],⟨⟨rfl,rfl,rfl⟩,?_⟩,by first|omega|(dsimp only; omega),by first|omega|(dsimp only; omega)⟩
        (repeat first|exact trivial|refine ent1 ?_)
        refine eqC_bts ?_
        (repeat first|exact trivial|refine ent1 ?_)
        have a0:(7-(s:Int)).toNat+0=7-s:=by omega
        have a1:(7-(s:Int)-1).toNat+0=6-s:=by omega
        refine ⟨fun j hj=>eqC_parts (fun i hi=>?_) j,trivial⟩
        rw [a0,a1]
        unfold upd
        by_cases h2:i=7-s
        ·rw [if_pos h2,if_neg (show ¬ 7-s<6-s by omega),h2]
         refine eqC_w32 (congrArg SC.w32 ?_)
         rw [if_pos (by omega)]
         exact congrArg v (by omega)
        ·rw [if_neg h2]
         unfold partsF
         rw [if_pos hi]
         refine eqC_w32 (congrArg SC.w32 ?_)
         have:7-s<i ↔ 7-(s+1)<i:=by omega
         simp only [this]
       ·obtain rfl:s=7:=by have:¬ 7-(s:Int) > 0:=of_decide_eq_false h; have hs:s≤7:=hs; omega
        (repeat first|refine And.intro (by omega) ?_|refine And.intro (by decide) ?_|(with_reducible refine frc_parts (by first|omega|decide) ?_)|(with_reducible refine frc_bytesL (by first|omega|decide) ?_)|refine And.intro rfl ?_)
        refine ⟨m+1,[0,1,2,3,4,5],⟨⟨rfl,rfl,rfl⟩,?_⟩,by first|omega|(dsimp only; omega),by first|omega|(dsimp only; omega)⟩
        (repeat first|exact trivial|refine ent1 ?_)
        refine eqC_bts ?_
        (repeat first|exact trivial|refine ent1 ?_)
        refine ⟨fun j hj=>eqC_parts (fun i hi=>?_) j,trivial⟩
        rw [show vR W V (m+1)=next v (steps m) (W m) by simp only [vR,hv]]
        have hj8:i=0∨i=1∨i=2∨i=3∨i=4∨i=5∨i=6∨i=7:=by omega
        rcases hj8 with rfl|rfl|rfl|rfl|rfl|rfl|rfl|rfl
        ·exact eqC_w32 (congrArg SC.w32 (BitVec.add_assoc _ _ _))
        all_goals exact ⟨rfl,trivial⟩
      ·obtain rfl:m=64:=by have:¬ (m:Int)<64:=of_decide_eq_false h; have hm:m≤64:=hm; omega
       obtain ⟨v,hv⟩:∃ v,vR W V 64=v:=⟨_,rfl⟩
       rw [hv]
       refine .inl ⟨Nat,fun m=>⟨[.any,.any,.any,.a (.c (.sl 1 0 0 8 8)),.any,.a (.c (.sl 2 0 0 (64*Q) c)),.any,.a (.c (.sl 3 0 0 64 64)),.a (.c (.int .i64 (((64*k:Nat):Int)))),.any,.any,.any,.any,.any,.a (.c (.sl 4 0 0 8 c8)),.any,.any,.any,.any,.any,.any,.any,.a (.c (.int .i64 (↑m))),.any,.any,.any,.any,.any,.any,.any,.any,.any,.any,.any,.any,.any,.any,.any,.any,.any,.any,.any,.any,.any,.any,.any,.any,.any,.any,.any,.any,.any,.any,.any,.any,.any,.any,.any,.any,.any,.any,.any,.any,.any,.any,.any,.any,.any,.any,.any,.any,.any,.any,.any,.any,.any,.any,.any,.any,.any,.any,.any,.any,.any,.any,.any,.any,.any,.any,.any,.any,.any,.any,.any,.any,.any,.any,.any,.any,.any,.any,.any,.any,.any,.any,.any,.any,.any,.any,.any,.any,.any,.any,.any,.any,.any,.any,.any,.any,.any,.any,.any,.any,.any,.any,.any,.any,.any,.any,.any,.any,.any,.any,.any,.any,.any,.any,.any,.any,.any,.any,.any,.any,.any,.any,.any,.any,.any,.any,.any,.any,.any,.any,.any,.any,.any,.any,.any,.any,.any,.any,.any,.any,.any,.any,.any,.any,.any,.any,.any,.any,.any,.any,.any,.any,.any,.any,.any,.any,.any,.any,.any,.any,.any,.any,.any,.any,.any,.any,.any,.any,.any,.any,.any,.any,.any,.any,.any,.any,.any,.any,.any,.any,.any,.any,.any,.any,.any,.any,.any,.any,.any,.any,.any,.any,.any,.any,.any,.any,.any,.any,.any,.any,.any,.any,.any,.any,.any,.any,.any,.any,.any,.any,.any,.any,.any,.any,.any,.any,.any,.any,.any,.any,.any,.any,.any,.any,.any,.any,.any,.any,.any,.any,.any,.any,.any,.any,.any,.any,.any,.any,.any,.any,.any,.any,.any,.any,.any,.any,.any,.any,.any,.any,.any,.any,.any,.any,.any,.any,.any,.any,.any,.any,.any,.any,.any,.any,.any,.any,.any,.any,.any,.any,.any,.any,.any,.any,.any,.any,.any,.any,.any,.any,.any,.any,.any,.any,.any,.any,.any,.any,.any,.any],[bts z N o l.length (L l),[.row 8 fun i=>.w32 (if i<m then V i+v i else V i)],[.row c (bytesF (64*Q) (L (full l)))],[.row 64 fun i=>.w32 (steps i)],[.row c8 (partsF 8 fun i=>.w32 (v i))]]⟩,
        fun m=>m≤8,fun m=>8-m,⟨0,[0,1,2,3,5],⟨⟨rfl,rfl,rfl⟩,?_⟩,by omega⟩,fun m hm=>⟨fun h=>?_,fun h=>?_⟩⟩
       ·(repeat first|exact trivial|refine ent1 ?_)
        refine eqC_bts ?_
        (repeat first|exact trivial|refine ent1 ?_)
        refine ⟨fun j hj=>eqC_parts (fun i hi=>?_) j,trivial⟩
        unfold partsF
        rw [if_pos hi]
        exact ⟨rfl,trivial⟩
       ·have hlt:(m:Int)<8:=of_decide_eq_true h
        refine ⟨none,[],[(0,true),(1,true),(2,true),(3,true),(4,true),(5,true),(6,true),(7,true),(8,true),(9,true),(10,true),(11,true)],[12],by kernel_rfl,?_⟩
        (repeat first|refine And.intro (by omega) ?_|refine And.intro (by decide) ?_|(with_reducible refine frc_parts (by first|omega|decide) ?_)|(with_reducible refine frc_bytesL (by first|omega|decide) ?_)|refine And.intro rfl ?_)
        refine ⟨m+1,[0,1,2,3,4],⟨⟨rfl,rfl,rfl⟩,?_⟩,by first|omega|(dsimp only; omega),by first|omega|(dsimp only; omega)⟩
        (repeat first|exact trivial|refine ent1 ?_)
        refine eqC_bts ?_
        have e0:(m:Int).toNat+0=m:=by omega
        refine ⟨rfl,fun j hj=>?_,?_⟩
        ·rw [e0]
         refine eqC_w32 ((upd_w32 (g:=fun i=>.w32 (if i<m+1 then V i+v i else V i)) ?_ ?_ j).trans rfl)
         ·simp only [if_pos (show m<m+1 by omega),if_neg (Nat.lt_irrefl m)]
         ·intro i hi
          have:i<m+1 ↔ i<m:=by omega
          simp only [this]
        ·(repeat first|exact trivial|refine ent1 ?_)
         refine ⟨fun j hj=>eqC_parts (fun i hi=>?_) j,trivial⟩
         unfold partsF
         rw [if_pos hi]
         exact ⟨rfl,trivial⟩
       ·obtain rfl:m=8:=by have:¬ (m:Int)<8:=of_decide_eq_false h; have hm:m≤8:=hm; omega
        (repeat first|refine And.intro (by omega) ?_|refine And.intro (by decide) ?_|(with_reducible refine frc_parts (by first|omega|decide) ?_)|(with_reducible refine frc_bytesL (by first|omega|decide) ?_)|refine And.intro rfl ?_)
        refine ⟨k+1,[0,1,2,3],⟨⟨rfl,rfl,rfl⟩,?_⟩,by first|omega|(dsimp only; omega),by first|omega|(dsimp only; omega)⟩
        (repeat first|exact trivial|refine ent1 ?_)
        refine eqC_bts ?_
        refine ⟨rfl,fun j hj=>eqC_w32 (congrArg SC.w32 ?_),?_⟩
        ·rw [hnext,if_pos hj]
         unfold compress
         rw [hW,hv]
        ·(repeat first|exact trivial|refine ent1 ?_)
    ·obtain rfl:k=Q:=by have:¬ ((64*k:Nat):Int)<((64*Q:Nat):Int):=of_decide_eq_false h; omega
     have hV:∀ i,i<32→L (sumL l) i=outW (wordsAt (full l) k).V i:=fun i hi=>by
      rw [sumL_full,L_tab hi]
      unfold wordsAt
      rw [← hQ,List.take_length]
     obtain ⟨V,hV'⟩:∃ V,(wordsAt (full l) k).V=V:=⟨_,rfl⟩
     rw [hV'] at hV
     rw [hV']
     let X:=Option (Nat × Nat)
     refine .inl ⟨X,fun x=>match x with
      | none=>⟨[.any,.any,.any,.a (.c (.sl 1 0 0 8 8)),.any,.any,.any,.any,.any,.any,.any,.any,.any,.any,.any,.any,.any,.any,.any,.any,.any,.any,.any,.a (.c (.slc none 0 0)),.a (.c (.int .i64 (0))),.any,.any,.any,.any,.any,.any,.any,.any,.any,.any,.any,.any,.any,.any,.any,.any,.any,.any,.any,.any,.any,.any,.any,.any,.any,.any,.any,.any,.any,.any,.any,.any,.any,.any,.any,.any,.any,.any,.any,.any,.any,.any,.any,.any,.any,.any,.any,.any,.any,.any,.any,.any,.any,.any,.any,.any,.any,.any,.any,.any,.any,.any,.any,.any,.any,.any,.any,.any,.any,.any,.any,.any,.any,.any,.any,.any,.any,.any,.any,.any,.any,.any,.any,.any,.any,.any,.any,.any,.any,.any,.any,.any,.any,.any,.any,.any,.any,.any,.any,.any,.any,.any,.any,.any,.any,.any,.any,.any,.any,.any,.any,.any,.any,.any,.any,.any,.any,.any,.any,.any,.any,.any,.any,.any,.any,.any,.any,.any,.any,.any,.any,.any,.any,.any,.any,.any,.any,.any,.any,.any,.any,.any,.any,.any,.any,.any,.any,.any,.any,.any,.any,.any,.any,.any,.any,.any,.any,.any,.any,.any,.any,.any,.any,.any,.any,.any,.any,.any,.any,.any,.any,.any,.any,.any,.any,.any,.any,.any,.any,.any,.any,.any,.any,.any,.any,.any,.any,.any,.any,.any,.any,.any,.any,.any,.any,.any,.any,.any,.any,.any,.any,.any,.any,.any,.any,.any,.any,.any,.any,.any,.any,.any,.any,.any,.any,.any,.any,.any,.any,.any,.any,.any,.any,.any,.any,.any,.any,.any,.any,.any,.any,.any,.any,.any,.any,.any,.any,.any,.any,.any,.any,.any,.any,.any,.any,.any,.any,.any,.any,.any,.any,.any,.any,.any,.any,.any,.any,.any,.any,.any,.any,.any,.any,.any,.any,.any,.any,.any,.any,.any,.any,.any,.any,.any,.any,.any,.any,.any,.any,.any,.any,.any,.any,.any,.any,.any,.any,.any],[bts z N o l.length (L l),[.row 8 fun i=>.w32 (V i)]]⟩
      | some (m,c)=>⟨[.any,.any,.any,.a (.c (.sl 1 0 0 8 8)),.any,.any,.any,.any,.any,.any,.any,.any,.any,.any,.any,.any,.any,.any,.any,.any,.any,.any,.any,.a (.c (.sl 2 0 0 (4*(m+1)) c)),.a (.c (.int .i64 (((m+1:Nat):Int)))),.any,.any,.any,.any,.any,.any,.any,.any,.any,.any,.any,.any,.any,.any,.any,.any,.any,.any,.any,.any,.any,.any,.any,.any,.any,.any,.any,.any,.any,.any,.any,.any,.any,.any,.any,.any,.any,.any,.any,.any,.any,.any,.any,.any,.any,.any,.any,.any,.any,.any,.any,.any,.any,.any,.any,.any,.any,.any,.any,.any,.any,.any,.any,.any,.any,.any,.any,.any,.any,.any,.any,.any,.any,.any,.any,.any,.any,.any,.any,.any,.any,.any,.any,.any,.any,.any,.any,.any,.any,.any,.any,.any,.any,.any,.any,.any,.any,.any,.any,.any,.any,.any,.any,.any,.any,.any,.any,.any,.any,.any,.any,.any,.any,.any,.any,.any,.any,.any,.any,.any,.any,.any,.any,.any,.any,.any,.any,.any,.any,.any,.any,.any,.any,.any,.any,.any,.any,.any,.any,.any,.any,.any,.any,.any,.any,.any,.any,.any,.any,.any,.any,.any,.any,.any,.any,.any,.any,.any,.any,.any,.any,.any,.any,.any,.any,.any,.any,.any,.any,.any,.any,.any,.any,.any,.any,.any,.any,.any,.any,.any,.any,.any,.any,.any,.any,.any,.any,.any,.any,.any,.any,.any,.any,.any,.any,.any,.any,.any,.any,.any,.any,.any,.any,.any,.any,.any,.any,.any,.any,.any,.any,.any,.any,.any,.any,.any,.any,.any,.any,.any,.any,.any,.any,.any,.any,.any,.any,.any,.any,.any,.any,.any,.any,.any,.any,.any,.any,.any,.any,.any,.any,.any,.any,.any,.any,.any,.any,.any,.any,.any,.any,.any,.any,.any,.any,.any,.any,.any,.any,.any,.any,.any,.any,.any,.any,.any,.any,.any,.any,.any,.any,.any,.any,.any,.any,.any,.any,.any,.any,.any,.any,.any,.any,.any,.any,.any,.any,.any],[bts z N o l.length (L l),[.row 8 fun i=>.w32 (V i)],[.row c (bytesF (4*(m+1)) (outW V))]]⟩,
      fun x=>match x with
      | none=>True
      | some (m,c)=>m<8∧4*(m+1)≤c,fun x=>match x with
      | none=>300
      | some (m,_)=>8-m,⟨none,[0,1],⟨⟨rfl,rfl,rfl⟩,?_⟩,trivial⟩,fun x=>?_⟩
     ·(repeat first|exact trivial|refine ent1 ?_)
      refine eqC_bts ?_
      (repeat first|exact trivial|refine ent1 ?_)
     rcases x with _|⟨m,c⟩
     ·intro _
      refine ⟨fun _=>?_,fun h=>absurd (of_decide_eq_false h) (by omega)⟩
      refine ⟨none,[],[(0,true),(1,true),(2,true),(3,true),(4,true),(5,true),(6,true),(7,true),(8,true),(9,true),(10,true),(11,true),(12,true),(13,true),(14,true),(15,true),(16,true),(17,true),(18,true),(19,true),(20,true),(21,true),(22,true),(23,true),(24,false)],[25,26],by kernel_rfl,?_⟩
      (repeat first|refine And.intro (by omega) ?_|refine And.intro (by decide) ?_|(with_reducible refine frc_parts (by first|omega|decide) ?_)|(with_reducible refine frc_bytesL (by first|omega|decide) ?_)|refine And.intro rfl ?_)
      refine fun _ c' hc'=>?_
      refine ⟨⟨by omega,by omega⟩,some (0,c'),[0,1,3],⟨⟨rfl,rfl,rfl⟩,?_⟩,⟨by omega,by omega⟩,by first|omega|(dsimp only; omega)⟩
      (repeat first|exact trivial|refine ent1 ?_)
      refine eqC_bts ?_
      (repeat first|exact trivial|refine ent1 ?_)
      refine ⟨fun j hj=>eqC_bytes (fun i hi=>?_) j,trivial⟩
      unfold newF
      rw [if_pos (by simpa [scale] using hi)]
      have:=four_out V 0 i (by omega)
      rw [Nat.mul_zero,Nat.zero_add] at this
      exact this
     ·rintro ⟨hm,hc⟩
      refine ⟨fun h=>?_,fun h=>?_⟩
      ·have hlt:((m+1:Nat):Int)<8:=of_decide_eq_true h
       refine ⟨none,[],[(0,true),(1,true),(2,true),(3,true),(4,true),(5,true),(6,true),(7,true),(8,true),(9,true),(10,true),(11,true),(12,true),(13,true),(14,true),(15,true),(16,true),(17,true),(18,true),(19,true),(20,true),(21,true),(22,true),(23,true),(24,false)],[25,26],by kernel_rfl,?_⟩
       (repeat first|refine And.intro (by omega) ?_|refine And.intro (by decide) ?_|(with_reducible refine frc_parts (by first|omega|decide) ?_)|(with_reducible refine frc_bytesL (by first|omega|decide) ?_)|refine And.intro rfl ?_)
       refine ⟨⟨by omega,by simp only [scale]; omega,by show _*1≤_; omega⟩,fun c' hc'=>?_⟩
       refine ⟨⟨by omega,by omega⟩,some (m+1,c'),[0,1,4],⟨⟨rfl,rfl,rfl⟩,?_⟩,⟨by omega,by omega⟩,by first|omega|(dsimp only; omega)⟩
       (repeat first|exact trivial|refine ent1 ?_)
       refine eqC_bts ?_
       (repeat first|exact trivial|refine ent1 ?_)
       refine ⟨fun j hj=>eqC_bytes (fun i hi=>?_) j,trivial⟩
       unfold appF
       have e0:((m+1:Nat):Int).toNat+0=m+1:=by omega
       by_cases h2:i<4*(m+1)
       ·rw [if_pos (by simpa [scale] using h2)]; exact bytesF_lt h2
       ·rw [if_neg (by simpa [scale] using h2),if_pos (by simp only [scale]; omega),e0]
        have:=four_out V (m+1) (i-4*(m+1)) (by omega)
        rw [show 4*(m+1)+(i-4*(m+1))=i by omega] at this
        exact this
      ·obtain rfl:m=7:=by have:¬ ((m+1:Nat):Int)<8:=of_decide_eq_false h; omega
       refine ⟨.a (.c (.sl 1 0 0 32 c)),[bts z N o l.length (L l),[.row c (bytesF 32 (L (sumL l)))]],⟨[0,2],⟨rfl,rfl,rfl⟩,?_⟩,c,rfl,rfl,hc⟩
       (repeat first|exact trivial|refine ent1 ?_)
       refine eqC_bts ?_
       exact ⟨rfl,fun j hj=>eqC_bytes (fun i hi=>by rw [bytesF_lt (by omega),hV i hi]) j,trivial⟩
end Sx
end
section
namespace Sx
open Sha

set_option maxHeartbeats 4000000 in
set_option maxRecDepth 20000 in
theorem fn_rmark (zk zb:Bool) (Nk Nb ok ob ck cb:Nat) (key b:Bs) (hNk:ok+key.length≤Nk) (hck:key.length≤ck) (hzk:zk=true→key=[]) (hNb:ob+b.length≤Nb) (hcb:b.length≤cb) (hzb:zb=true→b=[]) (hkl:key.length<1099511627776) (hbl:b.length<549755813888) :
  FnR Try.prog tds 7 2 [bts zk Nk ok key.length (L key),bts zb Nb ob b.length (L b)] [.c (.sn zk 0 0 ok key.length ck),.c (.sn zb 1 0 ob b.length cb)] (fun _=>True)
   (fun x hs=>∃ c,x=.a (.c (.sl 2 0 0 32 c))∧hs=[bts zk Nk ok key.length (L key),bts zb Nb ob b.length (L b),[.row c (bytesF 32 (L (markL key b)))]]∧32≤c):=by
 refine fn_of_body tds_ok follows_ Try.func7 rfl (t:=.a (.c (.sn zk 0 0 ok key.length ck))::.a (.c (.sn zb 1 0 ob b.length cb))::anys 43) rfl (fun w r0 hr _=>?_)
 obtain ⟨x0,x1,rfl⟩:=len2' hr
 obtain ⟨K,hK⟩:∃ K,keyL key=K:=⟨_,rfl⟩
 have hKl:K.length≤64:=by rw [← hK]; exact keyL_le _
 by_cases hlen:64<key.length
 ·obtain rfl:zk=false:=by
   cases zk
   ·rfl
   ·have:=hzk rfl; subst this; simp at hlen
  refine ⟨fun _=>?_,fun h=>absurd (of_decide_eq_false h) (by omega)⟩
  refine ⟨by kernel_rfl,call_same (fn_rsum false Nk ok ck key hNk hck hzk hkl) [0] rfl (by (repeat first|exact trivial|refine ent1 ?_)) (by (repeat first|exact trivial|refine ent1 ?_)) (fun _ _=>trivial) ?_⟩
  rintro x hs ⟨cs,rfl,rfl,hcs⟩
  have hS0:sumL key=K:=by rw [← hK]; unfold keyL; rw [if_pos hlen]
  have hKl2:K.length=32:=by rw [← hS0,sumL_len]
  rw [hS0]
  refine ⟨none,[0,1],[(0,false),(2,true),(1,false),(3,true)],[],by kernel_rfl,?_⟩
  (repeat first|refine And.intro (by omega) ?_|refine And.intro (by decide) ?_|(with_reducible refine frc_parts (by first|omega|decide) ?_)|(with_reducible refine frc_bytesL (by first|omega|decide) ?_)|refine And.intro rfl ?_)
  refine .inl ⟨Nat,fun k=>⟨[.a (.c (.sl 2 0 0 32 cs)),.a (.c (.sn zb 1 0 ob b.length cb)),.any,.any,.any,.a (.c (.sl 3 0 0 64 64)),.a (.c (.sl 4 0 0 64 64)),.a (.c (.int .i64 (↑k))),.any,.any,.any,.any,.any,.any,.any,.any,.any,.any,.any,.any,.any,.any,.any,.any,.any,.any,.any,.any,.any,.any,.any,.any,.any,.any,.any,.any,.any,.any,.any,.any,.any,.any,.any,.any,.any],[bts false Nk ok key.length (L key),bts zb Nb ob b.length (L b),[.row cs (bytesF 32 (L K))],[.row 64 fun i=>.w8 (if i<k then L K i ^^^ 0x36#8 else 0#8)],[.row 64 fun i=>.w8 (if i<k then L K i ^^^ 0x5c#8 else 0#8)]]⟩,
   fun k=>k≤64,fun k=>64-k,⟨0,[0,1,2,3,4],⟨⟨rfl,rfl,rfl⟩,?_⟩,by omega⟩,fun k hk=>⟨fun h=>?_,fun h=>?_⟩⟩
  ·(repeat first|exact trivial|refine ent1 ?_)
   refine eqC_bts ?_
   (repeat first|exact trivial|refine ent1 ?_)
  ·have hlt:(k:Int)<64:=of_decide_eq_true h
   have hx:∀ (x:BitVec 8) (j:Nat),eqC [0,1,2,3,4] (upd (fun i=>SC.w8 (if i<k then L K i ^^^ x else 0#8)) k (.w8 (L K k ^^^ x)) j) (.w8 (if j<k+1 then L K j ^^^ x else 0#8)) True:=fun x j=>by
    unfold upd
    by_cases hj:j=k
    ·rw [if_pos hj,hj,if_pos (by omega)]; exact ⟨rfl,trivial⟩
    ·have:j<k+1 ↔ j<k:=by omega
     rw [if_neg hj]; simp only [this]; exact ⟨rfl,trivial⟩
   refine ⟨fun h2=>?_,fun h2=>?_⟩
   ·have hkl:(k:Int)<((32:Nat):Int):=of_decide_eq_true h2
    (repeat first|refine And.intro (by omega) ?_|refine And.intro (by decide) ?_|(with_reducible refine frc_parts (by first|omega|decide) ?_)|(with_reducible refine frc_bytesL (by first|omega|decide) ?_)|refine And.intro rfl ?_)
    refine ⟨k+1,[0,1,2,3,4],⟨⟨rfl,rfl,rfl⟩,?_⟩,by first|omega|(dsimp only; omega),by first|omega|(dsimp only; omega)⟩
    (repeat first|exact trivial|refine ent1 ?_)
    refine eqC_bts ?_
    (repeat first|exact trivial|refine ent1 ?_)
    have e0:(k:Int).toNat+0=k:=by omega
    rw [e0]
    exact ⟨fun j hj=>hx _ j,rfl,fun j hj=>hx _ j,by (repeat first|exact trivial|refine ent1 ?_)⟩
   ·have hkl:¬ (k:Int)<((32:Nat):Int):=of_decide_eq_false h2
    have hz0:L K k=0#8:=L_over (by first|omega|simp)
    rw [hz0] at hx
    (repeat first|refine And.intro (by omega) ?_|refine And.intro (by decide) ?_|(with_reducible refine frc_parts (by first|omega|decide) ?_)|(with_reducible refine frc_bytesL (by first|omega|decide) ?_)|refine And.intro rfl ?_)
    refine ⟨k+1,[0,1,2,3,4],⟨⟨rfl,rfl,rfl⟩,?_⟩,by first|omega|(dsimp only; omega),by first|omega|(dsimp only; omega)⟩
    (repeat first|exact trivial|refine ent1 ?_)
    refine eqC_bts ?_
    (repeat first|exact trivial|refine ent1 ?_)
    have e0:(k:Int).toNat+0=k:=by omega
    rw [e0]
    exact ⟨fun j hj=>hx _ j,rfl,fun j hj=>hx _ j,by (repeat first|exact trivial|refine ent1 ?_)⟩
  ·obtain rfl:k=64:=by have:¬ (k:Int)<64:=of_decide_eq_false h; have hk:k≤64:=hk; omega
   obtain ⟨IN,hIN⟩:∃ IN,padL 0x36#8 K=IN:=⟨_,rfl⟩
   obtain ⟨OU,hOU⟩:∃ OU,padL 0x5c#8 K=OU:=⟨_,rfl⟩
   have hINl:IN.length=64:=by rw [← hIN,padL_len]
   have hOUl:OU.length=64:=by rw [← hOU,padL_len]
   have hINi:∀ i,i<64→(if i<64 then L K i ^^^ 0x36#8 else 0#8)=L IN i:=fun i hi=>by rw [if_pos hi,← hIN]; exact (L_tab (b:=fun i=>L K i ^^^ 0x36#8) hi).symm
   have hOUi:∀ i,i<64→(if i<64 then L K i ^^^ 0x5c#8 else 0#8)=L OU i:=fun i hi=>by rw [if_pos hi,← hOU]; exact (L_tab (b:=fun i=>L K i ^^^ 0x5c#8) hi).symm
   have hml:markL key b=sumL (OU++sumL (IN++b)):=by unfold markL; rw [hK,hIN,hOU]
   (repeat first|refine And.intro (by omega) ?_|refine And.intro (by decide) ?_|(with_reducible refine frc_parts (by first|omega|decide) ?_)|(with_reducible refine frc_bytesL (by first|omega|decide) ?_)|refine And.intro rfl ?_)
   refine sn_bts (N:=Nb) (b:=L b) ?_ hNb (fun h=>by rw [hzb h]; rfl) (fun g hg=>?_)
   ·rfl
   refine ⟨⟨by omega,by simp only [scale]; omega,by show _*1≤_; omega⟩,fun c1 hc1=>?_⟩
   have hr1:∀ i,i<(IN++b).length→appF (fun i=>SC.w8 (if i<64 then L K i ^^^ 0x36#8 else 0#8)) 0 (scale 64 (0+1)) (scale b.length (0+1)) g i=.w8 (L (IN++b) i):=fun i hi=>by
    rw [List.length_append,hINl] at hi
    unfold appF
    by_cases h64:i<64
    ·rw [if_pos (by simpa [scale] using h64)]
     exact congrArg SC.w8 ((hINi i h64).trans (L_app1 (by omega)).symm)
    ·rw [if_neg (by simpa [scale] using h64),if_pos (by simp only [scale]; omega),show scale 64 (0+1)=64 from rfl,hg _ (by omega),L_app,if_neg (by omega),hINl]
   refine ⟨by kernel_rfl,call_same (fn_rsum false c1 0 c1 (IN++b) (by rw [List.length_append]; omega) (by rw [List.length_append]; omega) (fun h=>Bool.noConfusion h) (by rw [List.length_append]; omega)) [5] rfl ⟨rfl,rfl,?_,rfl,trivial⟩ ?_ (fun _ _=>trivial) ?_⟩
   ·rw [List.length_append,hINl]
   ·exact ⟨rfl,fun j hj=>eqC_win0 hr1 j,trivial⟩
   rintro x hs ⟨c2,rfl,rfl,hc2⟩
   obtain ⟨S,hS⟩:∃ S,sumL (IN++b)=S:=⟨_,rfl⟩
   have hSl:S.length=32:=by rw [← hS,sumL_len]
   rw [hS] at hml
   rw [hS]
   refine ⟨by simp only [scale]; omega,⟨by omega,by simp only [scale]; omega,by show _*1≤_; omega⟩,fun c3 hc3=>?_⟩
   have hr2:∀ i,i<(OU++S).length→appF (fun i=>SC.w8 (if i<64 then L K i ^^^ 0x5c#8 else 0#8)) 0 (scale 64 (0+1)) (scale 32 (0+1)) (fun q=>SC.mp (bk 6 [5]) (bytesF 32 (L S) (q+0))) i=.w8 (L (OU++S) i):=fun i hi=>by
    rw [List.length_append,hOUl,hSl] at hi
    unfold appF
    by_cases h64:i<64
    ·rw [if_pos (by simpa [scale] using h64)]
     exact congrArg SC.w8 ((hOUi i h64).trans (L_app1 (by omega)).symm)
    ·rw [if_neg (by simpa [scale] using h64),if_pos (by simp only [scale]; omega),show scale 64 (0+1)=64 from rfl,L_app,if_neg (by omega),hOUl]
     show SC.mp _ (bytesF 32 (L S) (i-64))=_
     rw [bytesF_lt (by omega)]
     rfl
   refine ⟨by kernel_rfl,call_same (fn_rsum false c3 0 c3 (OU++S) (by rw [List.length_append]; omega) (by rw [List.length_append]; omega) (fun h=>Bool.noConfusion h) (by rw [List.length_append]; omega)) [7] rfl ⟨rfl,rfl,?_,rfl,trivial⟩ ?_ (fun _ _=>trivial) ?_⟩
   ·rw [List.length_append,hOUl,hSl]
   ·exact ⟨rfl,fun j hj=>eqC_win0 hr2 j,trivial⟩
   rintro x hs ⟨c4,rfl,rfl,hc4⟩
   refine ⟨.a (.c (.sl 2 0 0 32 c4)),[bts false Nk ok key.length (L key),bts zb Nb ob b.length (L b),[.row c4 (bytesF 32 (L (markL key b)))]],⟨[0,1,8],⟨rfl,rfl,rfl⟩,?_⟩,c4,rfl,rfl,hc4⟩
   rw [hml]
   (repeat first|exact trivial|refine ent1 ?_)
   refine eqC_bts ?_
   (repeat first|exact trivial|refine ent1 ?_)
 refine ⟨fun h=>absurd (of_decide_eq_true h) (by omega),fun _=>?_⟩
 obtain rfl:key=K:=by rw [← hK]; unfold keyL; rw [if_neg hlen]
 cases zk with
 | true =>
  obtain rfl:=hzk rfl
  refine ⟨none,[0,1],[(0,false),(2,true),(1,false),(3,true)],[],by kernel_rfl,?_⟩
  (repeat first|refine And.intro (by omega) ?_|refine And.intro (by decide) ?_|(with_reducible refine frc_parts (by first|omega|decide) ?_)|(with_reducible refine frc_bytesL (by first|omega|decide) ?_)|refine And.intro rfl ?_)
  refine .inl ⟨Nat,fun k=>⟨[.a (.c (.sn true 0 0 ok 0 ck)),.a (.c (.sn zb 1 0 ob b.length cb)),.any,.any,.any,.a (.c (.sl 2 0 0 64 64)),.a (.c (.sl 3 0 0 64 64)),.a (.c (.int .i64 (↑k))),.any,.any,.any,.any,.any,.any,.any,.any,.any,.any,.any,.any,.any,.any,.any,.any,.any,.any,.any,.any,.any,.any,.any,.any,.any,.any,.any,.any,.any,.any,.any,.any,.any,.any,.any,.any,.any],[bts true Nk ok ([]:Bs).length (L ([]:Bs)),bts zb Nb ob b.length (L b),[.row 64 fun i=>.w8 (if i<k then L ([]:Bs) i ^^^ 0x36#8 else 0#8)],[.row 64 fun i=>.w8 (if i<k then L ([]:Bs) i ^^^ 0x5c#8 else 0#8)]]⟩,
   fun k=>k≤64,fun k=>64-k,⟨0,[0,1,2,3],⟨⟨rfl,rfl,rfl⟩,?_⟩,by omega⟩,fun k hk=>⟨fun h=>?_,fun h=>?_⟩⟩
  ·(repeat first|exact trivial|refine ent1 ?_)
   refine eqC_bts (eqC_bts ?_)
   (repeat first|exact trivial|refine ent1 ?_)
  ·have hlt:(k:Int)<64:=of_decide_eq_true h
   have hx:∀ (x:BitVec 8) (j:Nat),eqC [0,1,2,3] (upd (fun i=>SC.w8 (if i<k then L ([]:Bs) i ^^^ x else 0#8)) k (.w8 (L ([]:Bs) k ^^^ x)) j) (.w8 (if j<k+1 then L ([]:Bs) j ^^^ x else 0#8)) True:=fun x j=>by
    unfold upd
    by_cases hj:j=k
    ·rw [if_pos hj,hj,if_pos (by omega)]; exact ⟨rfl,trivial⟩
    ·have:j<k+1 ↔ j<k:=by omega
     rw [if_neg hj]; simp only [this]; exact ⟨rfl,trivial⟩
   refine ⟨fun h2=>?_,fun h2=>?_⟩
   ·have hkl:(k:Int)<((0:Nat):Int):=of_decide_eq_true h2
    exact absurd hkl (by omega)
   ·have hkl:¬ (k:Int)<((0:Nat):Int):=of_decide_eq_false h2
    have hz0:L ([]:Bs) k=0#8:=L_over (by first|omega|simp)
    rw [hz0] at hx
    (repeat first|refine And.intro (by omega) ?_|refine And.intro (by decide) ?_|(with_reducible refine frc_parts (by first|omega|decide) ?_)|(with_reducible refine frc_bytesL (by first|omega|decide) ?_)|refine And.intro rfl ?_)
    refine ⟨k+1,[0,1,2,3],⟨⟨rfl,rfl,rfl⟩,?_⟩,by first|omega|(dsimp only; omega),by first|omega|(dsimp only; omega)⟩
    (repeat first|exact trivial|refine ent1 ?_)
    refine eqC_bts (eqC_bts ?_)
    (repeat first|exact trivial|refine ent1 ?_)
    have e0:(k:Int).toNat+0=k:=by omega
    rw [e0]
    exact ⟨fun j hj=>hx _ j,rfl,fun j hj=>hx _ j,by (repeat first|exact trivial|refine ent1 ?_)⟩
  ·obtain rfl:k=64:=by have:¬ (k:Int)<64:=of_decide_eq_false h; have hk:k≤64:=hk; omega
   obtain ⟨IN,hIN⟩:∃ IN,padL 0x36#8 ([]:Bs)=IN:=⟨_,rfl⟩
   obtain ⟨OU,hOU⟩:∃ OU,padL 0x5c#8 ([]:Bs)=OU:=⟨_,rfl⟩
   have hINl:IN.length=64:=by rw [← hIN,padL_len]
   have hOUl:OU.length=64:=by rw [← hOU,padL_len]
   have hINi:∀ i,i<64→(if i<64 then L ([]:Bs) i ^^^ 0x36#8 else 0#8)=L IN i:=fun i hi=>by rw [if_pos hi,← hIN]; exact (L_tab (b:=fun i=>L ([]:Bs) i ^^^ 0x36#8) hi).symm
   have hOUi:∀ i,i<64→(if i<64 then L ([]:Bs) i ^^^ 0x5c#8 else 0#8)=L OU i:=fun i hi=>by rw [if_pos hi,← hOU]; exact (L_tab (b:=fun i=>L ([]:Bs) i ^^^ 0x5c#8) hi).symm
   have hml:markL ([]:Bs) b=sumL (OU++sumL (IN++b)):=by unfold markL; rw [hK,hIN,hOU]
   (repeat first|refine And.intro (by omega) ?_|refine And.intro (by decide) ?_|(with_reducible refine frc_parts (by first|omega|decide) ?_)|(with_reducible refine frc_bytesL (by first|omega|decide) ?_)|refine And.intro rfl ?_)
   refine sn_bts (N:=Nb) (b:=L b) ?_ hNb (fun h=>by rw [hzb h]; rfl) (fun g hg=>?_)
   ·rfl
   refine ⟨⟨by omega,by simp only [scale]; omega,by show _*1≤_; omega⟩,fun c1 hc1=>?_⟩
   have hr1:∀ i,i<(IN++b).length→appF (fun i=>SC.w8 (if i<64 then L ([]:Bs) i ^^^ 0x36#8 else 0#8)) 0 (scale 64 (0+1)) (scale b.length (0+1)) g i=.w8 (L (IN++b) i):=fun i hi=>by
    rw [List.length_append,hINl] at hi
    unfold appF
    by_cases h64:i<64
    ·rw [if_pos (by simpa [scale] using h64)]
     exact congrArg SC.w8 ((hINi i h64).trans (L_app1 (by omega)).symm)
    ·rw [if_neg (by simpa [scale] using h64),if_pos (by simp only [scale]; omega),show scale 64 (0+1)=64 from rfl,hg _ (by omega),L_app,if_neg (by omega),hINl]
   refine ⟨by kernel_rfl,call_same (fn_rsum false c1 0 c1 (IN++b) (by rw [List.length_append]; omega) (by rw [List.length_append]; omega) (fun h=>Bool.noConfusion h) (by rw [List.length_append]; omega)) [4] rfl ⟨rfl,rfl,?_,rfl,trivial⟩ ?_ (fun _ _=>trivial) ?_⟩
   ·rw [List.length_append,hINl]
   ·exact ⟨rfl,fun j hj=>eqC_win0 hr1 j,trivial⟩
   rintro x hs ⟨c2,rfl,rfl,hc2⟩
   obtain ⟨S,hS⟩:∃ S,sumL (IN++b)=S:=⟨_,rfl⟩
   have hSl:S.length=32:=by rw [← hS,sumL_len]
   rw [hS] at hml
   rw [hS]
   refine ⟨by simp only [scale]; omega,⟨by omega,by simp only [scale]; omega,by show _*1≤_; omega⟩,fun c3 hc3=>?_⟩
   have hr2:∀ i,i<(OU++S).length→appF (fun i=>SC.w8 (if i<64 then L ([]:Bs) i ^^^ 0x5c#8 else 0#8)) 0 (scale 64 (0+1)) (scale 32 (0+1)) (fun q=>SC.mp (bk 5 [4]) (bytesF 32 (L S) (q+0))) i=.w8 (L (OU++S) i):=fun i hi=>by
    rw [List.length_append,hOUl,hSl] at hi
    unfold appF
    by_cases h64:i<64
    ·rw [if_pos (by simpa [scale] using h64)]
     exact congrArg SC.w8 ((hOUi i h64).trans (L_app1 (by omega)).symm)
    ·rw [if_neg (by simpa [scale] using h64),if_pos (by simp only [scale]; omega),show scale 64 (0+1)=64 from rfl,L_app,if_neg (by omega),hOUl]
     show SC.mp _ (bytesF 32 (L S) (i-64))=_
     rw [bytesF_lt (by omega)]
     rfl
   refine ⟨by kernel_rfl,call_same (fn_rsum false c3 0 c3 (OU++S) (by rw [List.length_append]; omega) (by rw [List.length_append]; omega) (fun h=>Bool.noConfusion h) (by rw [List.length_append]; omega)) [6] rfl ⟨rfl,rfl,?_,rfl,trivial⟩ ?_ (fun _ _=>trivial) ?_⟩
   ·rw [List.length_append,hOUl,hSl]
   ·exact ⟨rfl,fun j hj=>eqC_win0 hr2 j,trivial⟩
   rintro x hs ⟨c4,rfl,rfl,hc4⟩
   refine ⟨.a (.c (.sl 2 0 0 32 c4)),[bts true Nk ok ([]:Bs).length (L ([]:Bs)),bts zb Nb ob b.length (L b),[.row c4 (bytesF 32 (L (markL ([]:Bs) b)))]],⟨[0,1,7],⟨rfl,rfl,rfl⟩,?_⟩,c4,rfl,rfl,hc4⟩
   rw [hml]
   (repeat first|exact trivial|refine ent1 ?_)
   refine eqC_bts (eqC_bts ?_)
   (repeat first|exact trivial|refine ent1 ?_)
 | false =>
  refine ⟨none,[0,1],[(0,false),(2,true),(1,false),(3,true)],[],by kernel_rfl,?_⟩
  (repeat first|refine And.intro (by omega) ?_|refine And.intro (by decide) ?_|(with_reducible refine frc_parts (by first|omega|decide) ?_)|(with_reducible refine frc_bytesL (by first|omega|decide) ?_)|refine And.intro rfl ?_)
  refine .inl ⟨Nat,fun k=>⟨[.a (.c (.sn false 0 0 ok key.length ck)),.a (.c (.sn zb 1 0 ob b.length cb)),.any,.any,.any,.a (.c (.sl 2 0 0 64 64)),.a (.c (.sl 3 0 0 64 64)),.a (.c (.int .i64 (↑k))),.any,.any,.any,.any,.any,.any,.any,.any,.any,.any,.any,.any,.any,.any,.any,.any,.any,.any,.any,.any,.any,.any,.any,.any,.any,.any,.any,.any,.any,.any,.any,.any,.any,.any,.any,.any,.any],[bts false Nk ok key.length (L key),bts zb Nb ob b.length (L b),[.row 64 fun i=>.w8 (if i<k then L key i ^^^ 0x36#8 else 0#8)],[.row 64 fun i=>.w8 (if i<k then L key i ^^^ 0x5c#8 else 0#8)]]⟩,
   fun k=>k≤64,fun k=>64-k,⟨0,[0,1,2,3],⟨⟨rfl,rfl,rfl⟩,?_⟩,by omega⟩,fun k hk=>⟨fun h=>?_,fun h=>?_⟩⟩
  ·(repeat first|exact trivial|refine ent1 ?_)
   refine eqC_bts ?_
   (repeat first|exact trivial|refine ent1 ?_)
  ·have hlt:(k:Int)<64:=of_decide_eq_true h
   have hx:∀ (x:BitVec 8) (j:Nat),eqC [0,1,2,3] (upd (fun i=>SC.w8 (if i<k then L key i ^^^ x else 0#8)) k (.w8 (L key k ^^^ x)) j) (.w8 (if j<k+1 then L key j ^^^ x else 0#8)) True:=fun x j=>by
    unfold upd
    by_cases hj:j=k
    ·rw [if_pos hj,hj,if_pos (by omega)]; exact ⟨rfl,trivial⟩
    ·have:j<k+1 ↔ j<k:=by omega
     rw [if_neg hj]; simp only [this]; exact ⟨rfl,trivial⟩
   refine ⟨fun h2=>?_,fun h2=>?_⟩
   ·have hkl:(k:Int)<((key.length:Nat):Int):=of_decide_eq_true h2
    (repeat first|refine And.intro (by omega) ?_|refine And.intro (by decide) ?_|(with_reducible refine frc_parts (by first|omega|decide) ?_)|(with_reducible refine frc_bytesL (by first|omega|decide) ?_)|refine And.intro rfl ?_)
    have ew:ok+k=ok+k:=rfl
    refine frc_win (show k<key.length by omega) ?_
    (repeat first|refine And.intro (by omega) ?_|refine And.intro (by decide) ?_|(with_reducible refine frc_parts (by first|omega|decide) ?_)|(with_reducible refine frc_bytesL (by first|omega|decide) ?_)|refine And.intro rfl ?_)
    refine ⟨k+1,[0,1,2,3],⟨⟨rfl,rfl,rfl⟩,?_⟩,by first|omega|(dsimp only; omega),by first|omega|(dsimp only; omega)⟩
    (repeat first|exact trivial|refine ent1 ?_)
    refine eqC_bts ?_
    (repeat first|exact trivial|refine ent1 ?_)
    have e0:(k:Int).toNat+0=k:=by omega
    rw [e0]
    exact ⟨fun j hj=>hx _ j,rfl,fun j hj=>hx _ j,by (repeat first|exact trivial|refine ent1 ?_)⟩
   ·have hkl:¬ (k:Int)<((key.length:Nat):Int):=of_decide_eq_false h2
    have hz0:L key k=0#8:=L_over (by first|omega|simp)
    rw [hz0] at hx
    (repeat first|refine And.intro (by omega) ?_|refine And.intro (by decide) ?_|(with_reducible refine frc_parts (by first|omega|decide) ?_)|(with_reducible refine frc_bytesL (by first|omega|decide) ?_)|refine And.intro rfl ?_)
    refine ⟨k+1,[0,1,2,3],⟨⟨rfl,rfl,rfl⟩,?_⟩,by first|omega|(dsimp only; omega),by first|omega|(dsimp only; omega)⟩
    (repeat first|exact trivial|refine ent1 ?_)
    refine eqC_bts ?_
    (repeat first|exact trivial|refine ent1 ?_)
    have e0:(k:Int).toNat+0=k:=by omega
    rw [e0]
    exact ⟨fun j hj=>hx _ j,rfl,fun j hj=>hx _ j,by (repeat first|exact trivial|refine ent1 ?_)⟩
  ·obtain rfl:k=64:=by have:¬ (k:Int)<64:=of_decide_eq_false h; have hk:k≤64:=hk; omega
   obtain ⟨IN,hIN⟩:∃ IN,padL 0x36#8 key=IN:=⟨_,rfl⟩
   obtain ⟨OU,hOU⟩:∃ OU,padL 0x5c#8 key=OU:=⟨_,rfl⟩
   have hINl:IN.length=64:=by rw [← hIN,padL_len]
   have hOUl:OU.length=64:=by rw [← hOU,padL_len]
   have hINi:∀ i,i<64→(if i<64 then L key i ^^^ 0x36#8 else 0#8)=L IN i:=fun i hi=>by rw [if_pos hi,← hIN]; exact (L_tab (b:=fun i=>L key i ^^^ 0x36#8) hi).symm
   have hOUi:∀ i,i<64→(if i<64 then L key i ^^^ 0x5c#8 else 0#8)=L OU i:=fun i hi=>by rw [if_pos hi,← hOU]; exact (L_tab (b:=fun i=>L key i ^^^ 0x5c#8) hi).symm
   have hml:markL key b=sumL (OU++sumL (IN++b)):=by unfold markL; rw [hK,hIN,hOU]
   (repeat first|refine And.intro (by omega) ?_|refine And.intro (by decide) ?_|(with_reducible refine frc_parts (by first|omega|decide) ?_)|(with_reducible refine frc_bytesL (by first|omega|decide) ?_)|refine And.intro rfl ?_)
   refine sn_bts (N:=Nb) (b:=L b) ?_ hNb (fun h=>by rw [hzb h]; rfl) (fun g hg=>?_)
   ·rfl
   refine ⟨⟨by omega,by simp only [scale]; omega,by show _*1≤_; omega⟩,fun c1 hc1=>?_⟩
   have hr1:∀ i,i<(IN++b).length→appF (fun i=>SC.w8 (if i<64 then L key i ^^^ 0x36#8 else 0#8)) 0 (scale 64 (0+1)) (scale b.length (0+1)) g i=.w8 (L (IN++b) i):=fun i hi=>by
    rw [List.length_append,hINl] at hi
    unfold appF
    by_cases h64:i<64
    ·rw [if_pos (by simpa [scale] using h64)]
     exact congrArg SC.w8 ((hINi i h64).trans (L_app1 (by omega)).symm)
    ·rw [if_neg (by simpa [scale] using h64),if_pos (by simp only [scale]; omega),show scale 64 (0+1)=64 from rfl,hg _ (by omega),L_app,if_neg (by omega),hINl]
   refine ⟨by kernel_rfl,call_same (fn_rsum false c1 0 c1 (IN++b) (by rw [List.length_append]; omega) (by rw [List.length_append]; omega) (fun h=>Bool.noConfusion h) (by rw [List.length_append]; omega)) [4] rfl ⟨rfl,rfl,?_,rfl,trivial⟩ ?_ (fun _ _=>trivial) ?_⟩
   ·rw [List.length_append,hINl]
   ·exact ⟨rfl,fun j hj=>eqC_win0 hr1 j,trivial⟩
   rintro x hs ⟨c2,rfl,rfl,hc2⟩
   obtain ⟨S,hS⟩:∃ S,sumL (IN++b)=S:=⟨_,rfl⟩
   have hSl:S.length=32:=by rw [← hS,sumL_len]
   rw [hS] at hml
   rw [hS]
   refine ⟨by simp only [scale]; omega,⟨by omega,by simp only [scale]; omega,by show _*1≤_; omega⟩,fun c3 hc3=>?_⟩
   have hr2:∀ i,i<(OU++S).length→appF (fun i=>SC.w8 (if i<64 then L key i ^^^ 0x5c#8 else 0#8)) 0 (scale 64 (0+1)) (scale 32 (0+1)) (fun q=>SC.mp (bk 5 [4]) (bytesF 32 (L S) (q+0))) i=.w8 (L (OU++S) i):=fun i hi=>by
    rw [List.length_append,hOUl,hSl] at hi
    unfold appF
    by_cases h64:i<64
    ·rw [if_pos (by simpa [scale] using h64)]
     exact congrArg SC.w8 ((hOUi i h64).trans (L_app1 (by omega)).symm)
    ·rw [if_neg (by simpa [scale] using h64),if_pos (by simp only [scale]; omega),show scale 64 (0+1)=64 from rfl,L_app,if_neg (by omega),hOUl]
     show SC.mp _ (bytesF 32 (L S) (i-64))=_
     rw [bytesF_lt (by omega)]
     rfl
   refine ⟨by kernel_rfl,call_same (fn_rsum false c3 0 c3 (OU++S) (by rw [List.length_append]; omega) (by rw [List.length_append]; omega) (fun h=>Bool.noConfusion h) (by rw [List.length_append]; omega)) [6] rfl ⟨rfl,rfl,?_,rfl,trivial⟩ ?_ (fun _ _=>trivial) ?_⟩
   ·rw [List.length_append,hOUl,hSl]
   ·exact ⟨rfl,fun j hj=>eqC_win0 hr2 j,trivial⟩
   rintro x hs ⟨c4,rfl,rfl,hc4⟩
   refine ⟨.a (.c (.sl 2 0 0 32 c4)),[bts false Nk ok key.length (L key),bts zb Nb ob b.length (L b),[.row c4 (bytesF 32 (L (markL key b)))]],⟨[0,1,7],⟨rfl,rfl,rfl⟩,?_⟩,c4,rfl,rfl,hc4⟩
   rw [hml]
   (repeat first|exact trivial|refine ent1 ?_)
   refine eqC_bts ?_
   (repeat first|exact trivial|refine ent1 ?_)
end Sx
end
section
namespace Sha
section
variable {α : Sort _}
def frcE (n:Nat) (k:Nat→α):α:=match n with
 | 0=>k 0
 | m+1=>k (m+1)
theorem frcE_eq (n:Nat) (k:Nat→α):frcE n k=k n:=by cases n <;> rfl
def frcW (x:BitVec 32) (k:BitVec 32→α):α:=frcE x.toNat fun n=>k (BitVec.ofNat 32 n)
theorem frcW_eq (x:BitVec 32) (k:BitVec 32→α):frcW x k=k x:=by unfold frcW; rw [frcE_eq,BitVec.ofNat_toNat,BitVec.setWidth_eq]
def frc8 (x:BitVec 8) (k:BitVec 8→α):α:=frcE x.toNat fun n=>k (BitVec.ofNat 8 n)
theorem frc8_eq (x:BitVec 8) (k:BitVec 8→α):frc8 x k=k x:=by unfold frc8; rw [frcE_eq,BitVec.ofNat_toNat,BitVec.setWidth_eq]
def tabK (b:Nat→BitVec 8):Nat→Nat→(Bs→α)→α
 | 0,_,k=>k []
 | n+1,i,k=>frc8 (b i) fun x=>tabK b n (i+1) fun l=>k (x::l)
theorem tabK_eq' (b:Nat→BitVec 8):∀ (n i:Nat) (k:Bs→α),tabK b n i k=k (tab n fun j=>b (i+j))
 | 0,_,_=>rfl
 | n+1,i,k=>by
  simp only [tabK]
  rw [frc8_eq,tabK_eq']
  congr 1
  unfold tab
  rw [List.range_succ_eq_map]
  simp only [List.map_cons,Nat.add_zero,List.map_map,Function.comp_def]
  congr 1
  apply List.map_congr_left
  intro j _
  congr 1; omega
theorem tabK_eq (b:Nat→BitVec 8) (n:Nat) (k:Bs→α):tabK b n 0 k=k (tab n b):=by rw [tabK_eq']; simp
def startK (P:Nat→BitVec 8):Nat→Nat→List (BitVec 32)→(List (BitVec 32)→α)→α
 | 0,_,l,k=>k l
 | n+1,i,l,k=>frcW (w0 P i) fun x=>startK P n (i+1) (x::l) k
def schedK:Nat→List (BitVec 32)→(List (BitVec 32)→α)→α
 | 0,l,k=>k l
 | n+1,l,k=>frcW (l.getD 15 0+sig0 (l.getD 14 0)+l.getD 6 0+sig1 (l.getD 1 0)) fun x=>schedK n (x::l) k
def roundK:List (BitVec 32)→List (BitVec 32)→BitVec 32→BitVec 32→BitVec 32→BitVec 32→BitVec 32→BitVec 32→BitVec 32→BitVec 32→(List (BitVec 32)→α)→α
 | w::ws,s::ss,a,b,c,d,e,f,g,h,k =>
  frcW (h+(ror e 6 ^^^ ror e 11 ^^^ ror e 25)+((e &&& f) ^^^ (~~~e &&& g))+s+w) fun one =>
  frcW ((ror a 2 ^^^ ror a 13 ^^^ ror a 22)+((a &&& b) ^^^ (a &&& c) ^^^ (b &&& c))) fun two =>
  frcW (one+two) fun a'=>frcW (d+one) fun e'=>roundK ws ss a' a b c e' e f g k
 | _,_,a,b,c,d,e,f,g,h,k=>k [a,b,c,d,e,f,g,h]
def addK:List (BitVec 32)→List (BitVec 32)→(List (BitVec 32)→α)→α
 | x::l,y::m,k=>frcW (x+y) fun z=>addK l m fun r=>k (z::r)
 | _,_,k=>k []
def comprK (V:List (BitVec 32)) (P:Nat→BitVec 8) (k:List (BitVec 32)→α):α :=
 startK P 16 0 [] fun l=>schedK 48 l fun l =>
 roundK l.reverse (stepsL.map (BitVec.ofNat 32)) (V.getD 0 0) (V.getD 1 0) (V.getD 2 0) (V.getD 3 0) (V.getD 4 0) (V.getD 5 0) (V.getD 6 0) (V.getD 7 0) fun v=>addK V v k
def blocksK (l:Bs):Nat→Nat→List (BitVec 32)→(List (BitVec 32)→α)→α
 | 0,_,V,k=>k V
 | n+1,i,V,k=>comprK V (fun j=>L l (64*i+j)) fun V=>blocksK l n (i+1) V k
def sumK (l:Bs) (k:Bs→α):α :=
 tabK (L (full l)) (full l).length 0 fun m=>blocksK m (m.length / 64) 0 (firstL.map (BitVec.ofNat 32)) fun V=>tabK (outW fun i=>V.getD i 0) 32 0 k
end
section
variable {α : Sort _}
def l8 (v:Nat→BitVec 32):List (BitVec 32):=[v 0,v 1,v 2,v 3,v 4,v 5,v 6,v 7]
theorem l8_get (v:Nat→BitVec 32) {j:Nat} (h:j<8):(l8 v).getD j 0=v j:=by
 have:j=0∨j=1∨j=2∨j=3∨j=4∨j=5∨j=6∨j=7:=by omega
 rcases this with rfl|rfl|rfl|rfl|rfl|rfl|rfl|rfl <;> rfl
def Rep (l:List (BitVec 32)) (m:Nat) (W:Nat→BitVec 32):Prop:=l.length=m∧∀ j,j<m→l.getD (m-1-j) 0=W j
theorem Rep.cons {l:List (BitVec 32)} {m:Nat} {W:Nat→BitVec 32} (h:Rep l m W):Rep (W m::l) (m+1) W :=
 ⟨by simp [h.1],fun j hj=>by
  by_cases e:j=m
  ·subst e; rw [show j+1-1-j=0 by omega]; rfl
  ·rw [show m+1-1-j=(m-1-j)+1 by omega,List.getD_cons_succ]
   exact h.2 j (by omega)⟩
theorem startK_eq (P:Nat→BitVec 8) (W:Nat→BitVec 32):∀ (n i:Nat) (l:List (BitVec 32)),(∀ j,j<i+n→w0 P j=W j)→Rep l i W→∃ l',Rep l' (i+n) W∧∀ k:List (BitVec 32)→α,startK P n i l k=k l'
 | 0,i,l,_,h=>⟨l,h,fun _=>rfl⟩
 | n+1,i,l,hW,h=>by
  obtain ⟨l',h1,h2⟩:=startK_eq P W n (i+1) (W i::l) (fun j hj=>hW j (by omega)) h.cons
  exact ⟨l',by rwa [show i+(n+1)=i+1+n by omega],fun k=>by simp only [startK]; rw [frcW_eq,hW i (by omega),h2]⟩
theorem schedK_eq (W:Nat→BitVec 32):∀ (n m:Nat) (l:List (BitVec 32)),(∀ j,j<n→W (m+16+j)=W (m+j)+sig0 (W (m+j+1))+W (m+j+9)+sig1 (W (m+j+14)))→Rep l (m+16) W→∃ l',Rep l' (m+16+n) W∧∀ k:List (BitVec 32)→α,schedK n l k=k l'
 | 0,m,l,_,h=>⟨l,h,fun _=>rfl⟩
 | n+1,m,l,hW,h=>by
  have e0:=hW 0 (by omega)
  simp only [Nat.add_zero] at e0
  have g:∀ i,i<16→l.getD i 0=W (m+15-i):=fun i hi=>by
   have:=h.2 (m+15-i) (by omega)
   rwa [show m+16-1-(m+15-i)=i by omega] at this
  have e1:l.getD 15 0+sig0 (l.getD 14 0)+l.getD 6 0+sig1 (l.getD 1 0)=W (m+16):=by
   rw [g 15 (by omega),g 14 (by omega),g 6 (by omega),g 1 (by omega),e0]
   rw [show m+15-15=m by omega,show m+15-14=m+1 by omega,show m+15-6=m+9 by omega,show m+15-1=m+14 by omega]
  obtain ⟨l',h1,h2⟩:=schedK_eq W n (m+1) (W (m+16)::l) (fun j hj=>by
   have:=hW (j+1) (by omega)
   rw [show m+1+16+j=m+16+(j+1) by omega,show m+1+j=m+(j+1) by omega]
   exact this) (by have:=h.cons; rwa [show m+1+16=m+16+1 by omega])
  exact ⟨l',by rwa [show m+16+(n+1)=m+1+16+n by omega],fun k=>by simp only [schedK]; rw [frcW_eq,e1,h2]⟩
theorem wS_up (P:Nat→BitVec 8) (k i:Nat) (hi:i<16+k):∀ n,wS P (k+n) i=wS P k i
 | 0=>rfl
 | n+1=>by
  rw [← Nat.add_assoc]
  simp only [wS]
  rw [if_neg (by omega),wS_up P k i hi n]
theorem wS_at (P:Nat→BitVec 8) (k i:Nat) (hi:i<16+k) (hk:k≤48):wS P 48 i=wS P k i:=by
 have:=wS_up P k i hi (48-k)
 rwa [show k+(48-k)=48 by omega] at this
theorem wS_new (P:Nat→BitVec 8) (k:Nat) (hk:k<48):wS P 48 (16+k)=wS P 48 k+sig0 (wS P 48 (k+1))+wS P 48 (k+9)+sig1 (wS P 48 (k+14)):=by
 rw [wS_at P (k+1) (16+k) (by omega) (by omega),wS_at P k k (by omega) (by omega),wS_at P k (k+1) (by omega) (by omega),wS_at P k (k+9) (by omega) (by omega),wS_at P k (k+14) (by omega) (by omega)]
 simp only [wS]
 rw [if_pos trivial]
theorem roundK_eq (W V:Nat→BitVec 32) (k:List (BitVec 32)→α):∀ (n i:Nat) (v:Nat→BitVec 32),vR W V i=v →
  roundK ((List.range n).map fun j=>W (i+j)) ((List.range n).map fun j=>steps (i+j)) (v 0) (v 1) (v 2) (v 3) (v 4) (v 5) (v 6) (v 7) k=k (l8 (vR W V (i+n)))
 | 0,i,v,h=>by subst h; rfl
 | n+1,i,v,h=>by
  rw [List.range_succ_eq_map,List.map_cons,List.map_cons,roundK,frcW_eq,frcW_eq,frcW_eq,frcW_eq,List.map_map,List.map_map]
  have:=roundK_eq W V k n (i+1) (next v (steps i) (W i)) (by simp only [vR,h])
  rw [show i+(n+1)=i+1+n by omega,← this]
  have e1:((fun j=>W (i+j)) ∘ Nat.succ)=fun j=>W (i+1+j):=funext fun j=>congrArg W (show i+(j+1)=i+1+j by omega)
  have e2:((fun j=>steps (i+j)) ∘ Nat.succ)=fun j=>steps (i+1+j):=funext fun j=>congrArg steps (show i+(j+1)=i+1+j by omega)
  rw [e1,e2]
  rfl
theorem comprK_eq (V:Nat→BitVec 32) (P:Nat→BitVec 8) (k:List (BitVec 32)→α):comprK (l8 V) P k=k (l8 (compress V P)):=by
 unfold comprK
 obtain ⟨W,hW⟩:∃ W,wS P 48=W:=⟨_,rfl⟩
 obtain ⟨l1,a1,a2⟩:=startK_eq (α:=α) P W 16 0 [] (fun j hj=>by rw [← hW,wS_at P 0 j (by omega) (by omega)]; simp only [wS]; rw [if_pos (by omega)]) ⟨rfl,fun j hj=>absurd hj (by omega)⟩
 rw [a2]
 obtain ⟨l2,b1,b2⟩:=schedK_eq (α:=α) W 48 0 l1 (fun j hj=>by
  rw [← hW]
  simp only [Nat.zero_add]
  exact wS_new P j hj) a1
 rw [b2]
 have hrev:l2.reverse=(List.range 64).map fun j=>W (0+j):=by
  apply List.ext_getElem
  ·simp [b1.1]
  ·intro j h1 h2
   have hj:j<64:=by simpa using h2
   have:=b1.2 j hj
   rw [List.getD_eq_getElem?_getD,List.getElem?_eq_getElem (by rw [b1.1]; omega)] at this
   simp only [List.getElem_reverse,List.getElem_map,List.getElem_range,Nat.zero_add,b1.1]
   exact this
 have hst:stepsL.map (BitVec.ofNat 32)=(List.range 64).map fun j=>steps (0+j):=by
  apply List.ext_getElem
  ·rfl
  ·intro j h1 h2
   have hj:j<stepsL.length:=by simpa using h1
   simp only [List.getElem_map,List.getElem_range,Nat.zero_add]
   unfold steps
   rw [List.getD_eq_getElem?_getD,List.getElem?_eq_getElem hj]
   rfl
 rw [hrev,hst]
 have h8:=fun j hj=>l8_get V (j:=j) hj
 rw [h8 0 (by omega),h8 1 (by omega),h8 2 (by omega),h8 3 (by omega),h8 4 (by omega),h8 5 (by omega),h8 6 (by omega),h8 7 (by omega)]
 rw [roundK_eq W V _ 64 0 V rfl]
 simp only [l8,addK,frcW_eq]
 unfold compress
 rw [hW]
theorem blocksK_eq (m:Bs) (k:List (BitVec 32)→α):∀ (n i:Nat),64*(i+n)≤m.length→blocksK m n i (l8 (wordsAt m i).V) k=k (l8 (wordsAt m (i+n)).V)
 | 0,_,_=>rfl
 | n+1,i,h=>by
  simp only [blocksK]
  rw [comprK_eq,← wordsAt_succ m i (by omega),blocksK_eq m k n (i+1) (by omega),show i+(n+1)=i+1+n by omega]
theorem sumK_eq (l:Bs) (k:Bs→α):sumK l k=k (sumL l):=by
 obtain ⟨Q,hQ,_⟩:=full_64 l
 unfold sumK
 rw [tabK_eq,tab_L,hQ,show 64*Q / 64=Q by omega]
 have h0:firstL.map (BitVec.ofNat 32)=l8 (wordsAt (full l) 0).V:=by
  show _=l8 (pushL d0 ((full l).take (64*0))).V
  rw [Nat.mul_zero,List.take_zero]
  rfl
 rw [h0,blocksK_eq (full l) _ Q 0 (by omega),tabK_eq,sumL_full]
 have h1:(wordsAt (full l) (0+Q))=pushL d0 (full l):=by
  unfold wordsAt
  rw [Nat.zero_add,← hQ,List.take_length]
 rw [h1]
 congr 1
def padK (x:BitVec 8) (K:Bs) (k:Bs→α):α:=tabK (fun i=>L K i ^^^ x) 64 0 k
def keyK (key:Bs) (k:Bs→α):α:=if 64<key.length then sumK key k else k key
def markK (key m:Bs) (k:Bs→α):α:=keyK key fun K=>padK 0x36#8 K fun i=>padK 0x5c#8 K fun o=>sumK (i++m) fun s=>sumK (o++s) k
theorem markK_eq (key m:Bs) (k:Bs→α):markK key m k=k (markL key m):=by
 have e:∀ k':Bs→α,keyK key k'=k' (keyL key):=fun k'=>by
  unfold keyK keyL
  split
  ·exact sumK_eq _ _
  ·rfl
 unfold markK padK
 rw [e,tabK_eq,tabK_eq,sumK_eq,sumK_eq]
 rfl
end
theorem sum_by {l:Bs} {p:Bs→Bool} (h:sumK l p=true):p (sumL l)=true:=by rwa [sumK_eq] at h
theorem mark_by {key m:Bs} {p:Bs→Bool} (h:markK key m p=true):p (markL key m)=true:=by rwa [markK_eq] at h
end Sha
end
section
namespace Sha
theorem cat2 (a b c:Bs):cat (ps3 a b c) 2=a++b:=by simp [cat,ps3]
theorem cat1 (a b c:Bs):cat (ps3 a b c) 1=a:=by simp [cat,ps3]
theorem cat3 (a b c:Bs):cat (ps3 a b c) 3=a++b++c:=by simp [cat,ps3]
end Sha
namespace Sx
open Sha

end Sx
end
section
namespace Sha
def exT (s about:Bs):Nat→Bs
 | 0=>[]
 | k+1=>markL s (exT s about k++about++[BitVec.ofNat 8 (k+1)])
def exL (s about:Bs):Nat→Bs
 | 0=>[]
 | k+1=>exL s about k++exT s about (k+1)
theorem exT_len (s about:Bs) (k:Nat):(exT s about (k+1)).length=32:=markL_len _ _
theorem exL_len (s about:Bs):∀ k,(exL s about k).length=32*k
 | 0=>rfl
 | k+1=>by simp only [exL,List.length_append,exL_len s about k,exT_len]; omega
def exF (s about:Bs) (i:Nat):BitVec 8:=L (exL s about (i / 32+1)) i
theorem exL_up (s about:Bs) (k i:Nat) (hi:i<32*k):∀ n,L (exL s about (k+n)) i=L (exL s about k) i
 | 0=>rfl
 | n+1=>by
  rw [← Nat.add_assoc]
  simp only [exL]
  rw [L_app1 (by rw [exL_len]; omega),exL_up s about k i hi n]
theorem exL_at (s about:Bs) (k i:Nat) (hi:i<32*k):L (exL s about k) i=exF s about i:=by
 unfold exF
 have:=exL_up s about (i / 32+1) i (by omega) (k-(i / 32+1))
 rwa [show i / 32+1+(k-(i / 32+1))=k by omega] at this
end Sha
namespace Sx
open Sha

theorem eqC_n3 {q:List Nat} {a b c a' b' c':SC} {m:Nat} (hm:m≤3) (h0:eqC q a a' True) (h1:1<m→eqC q b b' True) (h2:2<m→eqC q c c' True) (j:Nat):eqC q (nthC [a,b,c] j) (partsF m (nthC [a',b',c']) j) True :=
 eqC_parts (f:=nthC [a,b,c]) (fun i hi=>by
  have:i=0∨i=1∨i=2:=by omega
  rcases this with rfl|rfl|rfl
  ·exact h0
  ·exact h1 hi
  ·exact h2 hi) j
set_option maxRecDepth 20000 in
set_option maxHeartbeats 2000000 in
theorem fn_kexpand (za:Bool) (Na oa ca:Nat) (s about:Bs) (many:Int) (dn:BitVec 32) (f g:Nat→BitVec 32) (hd:dn=0#32∨dn=1#32∧f=first∧g=steps)
  (hs:s.length=32) (hNa:oa+about.length≤Na) (hca:about.length≤ca) (hza:za=true→about=[]) :
  FnR Try.prog tds 63 1 [bts za Na oa about.length (L about),shaT dn 0 f g] [.c (.p 1 0 0),.agg [.row 32 fun i=>.w8 (L s i)],.c (.sn za 0 0 oa about.length ca),.c (.int .i64 many)] (fun _=>True)
   (fun x hs=>((many<0∨8160<many)→x=.tup [.c (.slc none 0 0),.c (.int .i64 2)]∧hs=[bts za Na oa about.length (L about),shaT dn 0 f g]) ∧
    (0≤many→many≤8160→∃ (z:Bool) (N:Nat) (dn':BitVec 32) (f' g':Nat→BitVec 32),(dn'=0#32∨dn'=1#32∧f'=first∧g'=steps)∧(z=true→many.toNat=0)∧(0<many→z=false)∧many.toNat≤N ∧
     x=.tup [.c (.sn z 2 0 0 many.toNat many.toNat),.c (.int .i64 0)]∧hs=[bts za Na oa about.length (L about),shaT dn' 0 f' g',bts z N 0 many.toNat (exF s about)])):=by
 refine fn_of_body tds_ok follows_ Try.func63 rfl (t:=[.a (.c (.p 1 0 0)),.a (.agg [.row 32 fun i=>.w8 (L s i)]),.a (.c (.sn za 0 0 oa about.length ca)),.a (.c (.int .i64 (many))),.any,.any,.any,.any,.any,.any,.any,.any,.any,.any,.any,.any,.any,.any,.any,.any,.any,.any,.any,.any,.any,.any,.any,.any,.any,.any,.any,.any,.any,.any,.any,.any,.any,.any,.any,.any,.any,.any,.any,.any,.any,.any,.any]) rfl (fun w r0 hr _=>?_)
 obtain ⟨x0,x1,rfl⟩:=len2' hr
 (repeat first|refine And.intro (by omega) ?_|refine And.intro (by decide) ?_|(with_reducible refine frc_parts (by first|omega|decide) ?_)|(with_reducible refine frc_bytesL (by first|omega|decide) ?_)|refine And.intro rfl ?_)
 refine ⟨fun h=>Bool.noConfusion h,fun _=>?_⟩
 by_cases h0:many<0
 ·have e0:decide (many<0)=true:=decide_eq_true h0
  (repeat first|refine ⟨fun _=>?_,fun h=>absurd h (by rw [e0]; decide)⟩|refine ⟨fun h=>absurd h (by rw [e0]; decide),fun _=>?_⟩|refine ⟨fun _=>?_,fun h=>Bool.noConfusion h⟩|refine ⟨fun h=>Bool.noConfusion h,fun _=>?_⟩)
  refine ⟨.tup [.c (.slc none 0 0),.c (.int .i64 2)],[bts za Na oa about.length (L about),shaT dn 0 f g],⟨[0,1],⟨rfl,rfl,rfl⟩,?_⟩,fun _=>⟨rfl,rfl⟩,fun h=>absurd h0 (by omega)⟩
  (repeat first|exact trivial|refine ent1 ?_)
  refine eqC_bts ?_
  (repeat first|exact trivial|refine ent1 ?_)
 have e0:decide (many<0)=false:=decide_eq_false h0
 by_cases h1:8160<many
 ·have e1:decide (8160<many)=true:=decide_eq_true h1
  (repeat first|refine ⟨fun _=>?_,fun h=>absurd h (by rw [e0]; decide)⟩|refine ⟨fun h=>absurd h (by rw [e0]; decide),fun _=>?_⟩|refine ⟨fun _=>?_,fun h=>absurd h (by rw [e1]; decide)⟩|refine ⟨fun h=>absurd h (by rw [e1]; decide),fun _=>?_⟩|refine ⟨fun _=>?_,fun h=>Bool.noConfusion h⟩|refine ⟨fun h=>Bool.noConfusion h,fun _=>?_⟩)
  refine ⟨.tup [.c (.slc none 0 0),.c (.int .i64 2)],[bts za Na oa about.length (L about),shaT dn 0 f g],⟨[0,1],⟨rfl,rfl,rfl⟩,?_⟩,fun _=>⟨rfl,rfl⟩,fun _ h=>absurd h1 (by omega)⟩
  (repeat first|exact trivial|refine ent1 ?_)
  refine eqC_bts ?_
  (repeat first|exact trivial|refine ent1 ?_)
 have e1:decide (8160<many)=false:=decide_eq_false h1
 (repeat first|refine ⟨fun _=>?_,fun h=>absurd h (by rw [e0]; decide)⟩|refine ⟨fun h=>absurd h (by rw [e0]; decide),fun _=>?_⟩|refine ⟨fun _=>?_,fun h=>absurd h (by rw [e1]; decide)⟩|refine ⟨fun h=>absurd h (by rw [e1]; decide),fun _=>?_⟩|refine ⟨fun _=>?_,fun h=>Bool.noConfusion h⟩|refine ⟨fun h=>Bool.noConfusion h,fun _=>?_⟩)
 obtain ⟨n,rfl⟩:∃ n:Nat,many=n:=⟨many.toNat,by omega⟩
 refine .inl ⟨Option (Nat × Nat),fun x=>match x with
  | none=>⟨[.a (.c (.p 1 0 0)),.any,.a (.c (.sn za 0 0 oa about.length ca)),.a (.c (.int .i64 (↑n))),.any,.a (.c (.p 2 0 0)),.any,.any,.any,.any,.a (.c (.slc none 0 0)),.a (.c (.slc none 0 0)),.a (.c (.int .i64 (1))),.any,.any,.any,.any,.any,.any,.any,.any,.any,.any,.any,.any,.any,.any,.any,.any,.any,.any,.any,.any,.any,.any,.any,.any,.any,.any,.any,.any,.any,.any,.any,.any,.any,.any],[bts za Na oa about.length (L about),shaT dn 0 f g,[.row 32 fun i=>.w8 (L s i)]]⟩
  | some (k,c)=>⟨[.a (.c (.p 1 0 0)),.any,.a (.c (.sn za 0 0 oa about.length ca)),.a (.c (.int .i64 (↑n))),.any,.a (.c (.p 2 0 0)),.any,.any,.any,.any,.a (.c (.sl 3 0 0 (32*(k+1)) c)),.a (.c (.sl 4 0 0 32 32)),.a (.c (.int .i64 (((k+2:Nat):Int)))),.any,.any,.any,.any,.any,.any,.any,.any,.any,.any,.any,.any,.any,.any,.any,.any,.any,.any,.any,.any,.any,.any,.any,.any,.any,.any,.any,.any,.any,.any,.any,.any,.any,.any],[bts za Na oa about.length (L about),shaT 1 0 first steps,[.row 32 fun i=>.w8 (L s i)],[.row c (bytesF (32*(k+1)) (L (exL s about (k+1))))],[.row 32 fun i=>.w8 (L (exT s about (k+1)) i)]]⟩,
  fun x=>match x with
  | none=>True
  | some (k,c)=>32*k<n∧32*(k+1)≤c,fun x=>match x with
  | none=>9000
  | some (k,_)=>300-k,⟨none,[0,1,2],⟨⟨rfl,rfl,rfl⟩,?_⟩,trivial⟩,fun x=>?_⟩
 ·(repeat first|exact trivial|refine ent1 ?_)
  refine eqC_bts ?_
  (repeat first|exact trivial|refine ent1 ?_)
 rcases x with _|⟨k,c⟩
 ·intro _
  refine ⟨fun h=>?_,fun h=>?_⟩
  ·have hn:0<n:=by have:(0:Int)<n:=of_decide_eq_true h; omega
   obtain ⟨M,hM⟩:∃ M,markL s ([]++about++[BitVec.ofNat 8 1])=M:=⟨_,rfl⟩
   have hM2:exT s about 1=M:=hM
   have hMl:M.length=32:=by rw [← hM,markL_len]
   refine ⟨some [],[11],[(0,true),(1,true),(2,true),(3,true),(4,true),(5,true),(6,true),(7,true),(8,false),(9,false),(10,false),(11,false)],[12],by kernel_rfl,?_⟩
   (repeat first|refine And.intro (by omega) ?_|refine And.intro (by decide) ?_|(with_reducible refine frc_parts (by first|omega|decide) ?_)|(with_reducible refine frc_bytesL (by first|omega|decide) ?_)|refine And.intro rfl ?_)
   refine call_same (fn_smark false true za false 32 0 Na 1 0 0 oa 0 32 0 ca 1 s [] about [BitVec.ofNat 8 1] 3 3 3 dn f g hd (by omega) (by omega) (fun h=>Bool.noConfusion h) (by decide) (by decide) (fun _=>rfl) hNa hca hza (by decide) (by decide) (fun h=>Bool.noConfusion h) (by decide) (by decide)) [2,3,0,3,4,1] rfl ⟨rfl,rfl,rfl,hs.symm,rfl,rfl,rfl,rfl,trivial⟩ ?_ (fun _ _=>trivial) ?_
   ·(repeat first|exact trivial|refine ent1 ?_)
    refine ⟨fun j hj=>eqC_win8 (fun i hi=>rfl) j,?_⟩
    (repeat first|exact trivial|refine ent1 ?_)
    refine eqC_bts ?_
    (repeat first|exact trivial|refine ent1 ?_)
    refine ⟨fun j hj=>eqC_win0 (fun i hi=>?_) j,?_⟩
    ·obtain rfl:i=0:=by have:i<1:=hi; omega
     rfl
    (repeat first|exact trivial|refine ent1 ?_)
    refine ⟨fun j hj=>eqC_n3 (by decide) (by exact ⟨rfl,rfl,rfl,rfl,rfl,trivial⟩) (by exact fun _=>⟨rfl,rfl,rfl,rfl,trivial⟩) (by exact fun _=>⟨rfl,rfl,rfl,rfl,trivial⟩) j,?_⟩
    (repeat first|exact trivial|refine ent1 ?_)
   rintro x hs' ⟨rfl,rfl⟩
   rw [cat3,hM]
   (repeat first|refine And.intro (by omega) ?_|refine And.intro (by decide) ?_|(with_reducible refine frc_parts (by first|omega|decide) ?_)|(with_reducible refine frc_bytesL (by first|omega|decide) ?_)|refine And.intro rfl ?_)
   refine ⟨fun h=>absurd h (by decide),fun _ c' hc'=>?_⟩
   refine ⟨⟨by omega,by omega⟩,some (0,c'),[0,1,2,6,5],⟨⟨rfl,rfl,rfl⟩,?_⟩,⟨by omega,by omega⟩,by first|omega|(dsimp only; omega)⟩
   (repeat first|exact trivial|refine ent1 ?_)
   refine eqC_bts ?_
   (repeat first|exact trivial|refine ent1 ?_)
   refine ⟨fun j hj=>eqC_bytes (fun i hi=>?_) j,rfl,fun j hj=>?_,trivial⟩
   ·unfold newF
    rw [if_pos (by simpa [scale] using hi)]
    have hE:exL s about 1=M:=by rw [← hM2]; rfl
    show _=SC.w8 (L (exL s about 1) i)
    rw [hE]
    rfl
   ·show eqC _ _ (SC.w8 (L (exT s about 1) j)) True
    rw [hM2]
    exact ⟨rfl,trivial⟩
  ·obtain rfl:n=0:=by have:¬ (0:Int)<n:=of_decide_eq_false h; omega
   (repeat first|refine And.intro (by omega) ?_|refine And.intro (by decide) ?_|(with_reducible refine frc_parts (by first|omega|decide) ?_)|(with_reducible refine frc_bytesL (by first|omega|decide) ?_)|refine And.intro rfl ?_)
   refine ⟨.tup [.c (.sn true 2 0 0 0 0),.c (.int .i64 0)],[bts za Na oa about.length (L about),shaT dn 0 f g,[]],⟨[0,1,2],⟨rfl,rfl,rfl⟩,?_⟩,fun h=>absurd h (by omega),fun _ _=>⟨true,0,dn,f,g,hd,fun _=>rfl,fun h=>absurd h (by omega),Nat.le_refl _,rfl,rfl⟩⟩
   (repeat first|exact trivial|refine ent1 ?_)
   refine eqC_bts ?_
   (repeat first|exact trivial|refine ent1 ?_)
 ·rintro ⟨hk,hc⟩
  refine ⟨fun h=>?_,fun h=>?_⟩
  ·have hn:32*(k+1)<n:=by have:((32*(k+1):Nat):Int)<n:=of_decide_eq_true h; omega
   obtain ⟨T,hT⟩:∃ T,exT s about (k+1)=T:=⟨_,rfl⟩
   have hTl:T.length=32:=by rw [← hT,exT_len]
   obtain ⟨M,hM⟩:∃ M,markL s (T++about++[BitVec.ofNat 8 (k+2)])=M:=⟨_,rfl⟩
   have hM2:exT s about (k+2)=M:=by rw [← hM,← hT]; rfl
   rw [hT]
   have hMl:M.length=32:=by rw [← hM,markL_len]
   refine ⟨some [],[11],[(0,true),(1,true),(2,true),(3,true),(4,true),(5,true),(6,true),(7,true),(8,false),(9,false),(10,false),(11,false)],[12],by kernel_rfl,?_⟩
   (repeat first|refine And.intro (by omega) ?_|refine And.intro (by decide) ?_|(with_reducible refine frc_parts (by first|omega|decide) ?_)|(with_reducible refine frc_bytesL (by first|omega|decide) ?_)|refine And.intro rfl ?_)
   refine call_same (fn_smark false false za false 32 32 Na 1 0 0 oa 0 32 32 ca 1 s T about [BitVec.ofNat 8 (k+2)] 3 3 3 1 first steps (.inr ⟨rfl,rfl,rfl⟩) (by omega) (by omega) (fun h=>Bool.noConfusion h) (by omega) (by omega) (fun h=>Bool.noConfusion h) hNa hca hza (Nat.le_refl 1) (Nat.le_refl 1) (fun h=>Bool.noConfusion h) (by decide) (by decide)) [2,4,0,5,6,1] rfl ⟨rfl,rfl,rfl,hs.symm,rfl,rfl,rfl,rfl,trivial⟩ ?_ (fun _ _=>trivial) ?_
   ·(repeat first|exact trivial|refine ent1 ?_)
    refine ⟨fun j hj=>eqC_win8 (fun i hi=>rfl) j,?_⟩
    (repeat first|exact trivial|refine ent1 ?_)
    refine ⟨fun j hj=>eqC_win8 (fun i hi=>rfl) j,?_⟩
    (repeat first|exact trivial|refine ent1 ?_)
    refine eqC_bts ?_
    (repeat first|exact trivial|refine ent1 ?_)
    refine ⟨fun j hj=>eqC_win0 (fun i hi=>?_) j,?_⟩
    ·obtain rfl:i=0:=by have:i<1:=hi; omega
     exact congrArg SC.w8 (BitVec.ofInt_natCast 8 (k+2))
    (repeat first|exact trivial|refine ent1 ?_)
    refine ⟨fun j hj=>eqC_n3 (by decide) (by exact ⟨rfl,rfl,hTl.symm,rfl,trivial⟩) (by exact fun _=>⟨rfl,rfl,rfl,rfl,trivial⟩) (by exact fun _=>⟨rfl,rfl,rfl,rfl,trivial⟩) j,?_⟩
    (repeat first|exact trivial|refine ent1 ?_)
   rintro x hs' ⟨rfl,rfl⟩
   rw [cat3,hM]
   (repeat first|refine And.intro (by omega) ?_|refine And.intro (by decide) ?_|(with_reducible refine frc_parts (by first|omega|decide) ?_)|(with_reducible refine frc_bytesL (by first|omega|decide) ?_)|refine And.intro rfl ?_)
   refine ⟨⟨by omega,by simp only [scale]; omega,by show (32*(k+1)+32)*1≤140737488355328; omega⟩,fun c' hc'=>?_⟩
   refine ⟨⟨by omega,by omega⟩,some (k+1,c'),[0,1,2,8,7],⟨⟨rfl,rfl,rfl⟩,?_⟩,⟨by omega,by omega⟩,by first|omega|(dsimp only; omega)⟩
   (repeat first|exact trivial|refine ent1 ?_)
   refine eqC_bts ?_
   (repeat first|exact trivial|refine ent1 ?_)
   refine ⟨fun j hj=>eqC_bytes (fun i hi=>?_) j,rfl,fun j hj=>?_,trivial⟩
   ·unfold appF
    have hE:exL s about (k+2)=exL s about (k+1)++M:=by rw [← hM2]; rfl
    show _=SC.w8 (L (exL s about (k+2)) i)
    rw [hE,L_app,exL_len]
    by_cases h2:i<32*(k+1)
    ·rw [if_pos (by simpa [scale] using h2),if_pos h2]
     exact bytesF_lt h2
    ·rw [if_neg (by simpa [scale] using h2),if_pos (by simp only [scale]; omega),if_neg h2]
     rfl
   ·show eqC _ _ (SC.w8 (L (exT s about (k+2)) j)) True
    rw [hM2]
    exact ⟨rfl,trivial⟩
  ·have hn:n≤32*(k+1):=by have:¬ ((32*(k+1):Nat):Int)<n:=of_decide_eq_false h; omega
   (repeat first|refine And.intro (by omega) ?_|refine And.intro (by decide) ?_|(with_reducible refine frc_parts (by first|omega|decide) ?_)|(with_reducible refine frc_bytesL (by first|omega|decide) ?_)|refine And.intro rfl ?_)
   refine ⟨.tup [.c (.sn false 2 0 0 n n),.c (.int .i64 0)],[bts za Na oa about.length (L about),shaT 1 0 first steps,bts false c 0 n (exF s about)],⟨[0,1,3],⟨rfl,rfl,rfl⟩,?_⟩,fun h=>absurd h (by omega),fun _ _=>⟨false,c,1,first,steps,.inr ⟨rfl,rfl,rfl⟩,fun h=>Bool.noConfusion h,fun _=>rfl,by omega,rfl,rfl⟩⟩
   refine ⟨rfl,?_,rfl,rfl,rfl,?_⟩
   ·split <;> rfl
   refine eqC_bts ?_
   (repeat first|exact trivial|refine ent1 ?_)
   exact ⟨fun j hj=>eqC_win0 (fun i hi=>by rw [bytesF_lt (by omega),exL_at _ _ _ _ (by omega)]) j,trivial⟩
end Sx
end
section
namespace Sx
open Sha

set_option maxRecDepth 20000 in
set_option maxHeartbeats 2000000 in
theorem fn_rexpand (zs za:Bool) (Ns Na os oa cs ca:Nat) (s about:Bs) (n:Nat) (hNs:os+s.length≤Ns) (hcs:s.length≤cs) (hzs:zs=true→s=[]) (hNa:oa+about.length≤Na) (hca:about.length≤ca) (hza:za=true→about=[])
  (hsl:s.length<1000000) (hal:about.length<1000000) (hn:n≤100000) :
  FnR Try.prog tds 40 2 [bts zs Ns os s.length (L s),bts za Na oa about.length (L about)] [.c (.sn zs 0 0 os s.length cs),.c (.sn za 1 0 oa about.length ca),.c (.int .i64 (n:Int))] (fun _=>True)
   (fun x hs=>(n=0→x=.a (.c (.slc none 0 0))∧hs=[bts zs Ns os s.length (L s),bts za Na oa about.length (L about)])∧(0<n→∃ N c:Nat,n≤N∧n≤c∧x=.a (.c (.sl 2 0 0 n c))∧hs=[bts zs Ns os s.length (L s),bts za Na oa about.length (L about),[.row N (winF 0 n (exF s about))]])):=by
 refine fn_of_body tds_ok follows_ Try.func40 rfl (t:=[.a (.c (.sn zs 0 0 os s.length cs)),.a (.c (.sn za 1 0 oa about.length ca)),.a (.c (.int .i64 (↑n))),.any,.any,.any,.any,.any,.any,.any,.any,.any,.any,.any,.any,.any,.any,.any,.any,.any,.any,.any,.any,.any,.any,.any,.any,.any,.any,.any,.any,.any,.any,.any,.any,.any]) rfl (fun w r0 hr _=>?_)
 obtain ⟨x0,x1,rfl⟩:=len2' hr
 refine .inl ⟨Option (Nat × Nat × Nat),fun x=>match x with
  | none=>⟨[.a (.c (.sn zs 0 0 os s.length cs)),.a (.c (.sn za 1 0 oa about.length ca)),.a (.c (.int .i64 (↑n))),.any,.any,.any,.any,.a (.c (.slc none 0 0)),.a (.c (.slc none 0 0)),.a (.c (.int .i64 (1))),.any,.any,.any,.any,.any,.any,.any,.any,.any,.any,.any,.any,.any,.any,.any,.any,.any,.any,.any,.any,.any,.any,.any,.any,.any,.any],[bts zs Ns os s.length (L s),bts za Na oa about.length (L about)]⟩
  | some (k,c,cl)=>⟨[.a (.c (.sn zs 0 0 os s.length cs)),.a (.c (.sn za 1 0 oa about.length ca)),.a (.c (.int .i64 (↑n))),.any,.any,.any,.any,.a (.c (.sl 2 0 0 (32*(k+1)) c)),.a (.c (.sl 3 0 0 32 cl)),.a (.c (.int .i64 (((k+2:Nat):Int)))),.any,.any,.any,.any,.any,.any,.any,.any,.any,.any,.any,.any,.any,.any,.any,.any,.any,.any,.any,.any,.any,.any,.any,.any,.any,.any],[bts zs Ns os s.length (L s),bts za Na oa about.length (L about),[.row c (bytesF (32*(k+1)) (L (exL s about (k+1))))],[.row cl (bytesF 32 (L (exT s about (k+1))))]]⟩,
  fun x=>match x with
  | none=>True
  | some (k,c,cl)=>32*k<n∧32*(k+1)≤c∧32≤cl,fun x=>match x with
  | none=>9000
  | some (k,_,_)=>5000-k,⟨none,[0,1],⟨⟨rfl,rfl,rfl⟩,?_⟩,trivial⟩,fun x=>?_⟩
 ·(repeat first|exact trivial|refine ent1 ?_)
  refine eqC_bts (eqC_bts ?_)
  (repeat first|exact trivial|refine ent1 ?_)
 rcases x with _|⟨k,c,cl⟩
 ·intro _
  refine ⟨fun h=>?_,fun h=>?_⟩
  ·have hn:0<n:=by have:(0:Int)<n:=of_decide_eq_true h; omega
   obtain ⟨T,hT⟩:∃ T:Bs,[]=T:=⟨_,rfl⟩
   have hTl:T.length=0:=by rw [← hT]; rfl
   obtain ⟨M,hM⟩:∃ M,markL s (T++about++[BitVec.ofNat 8 1])=M:=⟨_,rfl⟩
   have hM2:exT s about 1=M:=by rw [← hM,← hT]; rfl
   have hMl:M.length=32:=by rw [← hM,markL_len]
   (repeat first|refine And.intro (by omega) ?_|refine And.intro (by decide) ?_|(with_reducible refine frc_parts (by first|omega|decide) ?_)|(with_reducible refine frc_bytesL (by first|omega|decide) ?_)|refine And.intro rfl ?_)
   refine fun c1 hc1=>?_
   have r1:∀ i,i<0+0→appF (nthC []) 0 (scale 0 (0+1)) (scale 0 (0+1)) (fun _=>SC.any) i=.w8 (L ([]++T) i):=app_row (n:=0) (k:=0) rfl hTl (fun i hi=>absurd hi (by omega)) (fun i hi=>absurd hi (by omega))
   refine sn_bts (N:=Na) (b:=L about) ?_ hNa (fun h=>by rw [hza h]; rfl) (fun g hg=>?_)
   ·rfl
   refine ⟨⟨by omega,by simp only [scale]; omega,by show (0+0+about.length)*1≤140737488355328; omega⟩,fun c2 hc2=>?_⟩
   have r2:=app_row (n:=0+0) (by simp [hTl]) rfl r1 hg
   (repeat first|refine And.intro (by omega) ?_|refine And.intro (by decide) ?_|(with_reducible refine frc_parts (by first|omega|decide) ?_)|(with_reducible refine frc_bytesL (by first|omega|decide) ?_)|refine And.intro rfl ?_)
   refine ⟨⟨by omega,by simp only [scale]; omega,by show (0+0+about.length+1)*1≤140737488355328; omega⟩,fun c3 hc3=>?_⟩
   have r3:=app_row (m:=[BitVec.ofNat 8 1]) (k:=1) (by rw [List.length_append,List.nil_append,hTl,Nat.zero_add]) rfl r2 (one_row (x:=BitVec.ofInt 8 1) rfl)
   rw [List.nil_append] at r3
   have hXl:(T++about++[BitVec.ofNat 8 1]).length=0+0+about.length+1:=by rw [List.length_append,List.length_append,hTl]; simp
   obtain ⟨X,hX⟩:∃ X,T++about++[BitVec.ofNat 8 1]=X:=⟨_,rfl⟩
   rw [hX] at r3 hXl hM
   refine ⟨by kernel_rfl,call_same (fn_rmark zs false Ns c3 os 0 cs c3 s X hNs hcs hzs (by omega) (by omega) (fun h=>Bool.noConfusion h) (by omega) (by omega)) [0,6] rfl ⟨rfl,rfl,rfl,rfl,rfl,rfl,hXl.symm,rfl,trivial⟩ ?_ (fun _ _=>trivial) ?_⟩
   ·refine eqC_bts ?_
    exact ⟨rfl,fun j hj=>eqC_win0 (fun i hi=>r3 i (by omega)) j,trivial⟩
   rintro x hs' ⟨c4,rfl,rfl,hc4⟩
   rw [hM]
   refine ⟨by simp only [scale]; omega,⟨rfl,rfl⟩,by decide,fun h=>absurd h (by decide),fun _ c5 hc5=>?_⟩
   refine ⟨⟨by omega,by omega⟩,some (0,c5,c4),[0,1,8,7],⟨⟨rfl,rfl,rfl⟩,?_⟩,⟨by omega,by omega,hc4⟩,by first|omega|(dsimp only; omega)⟩
   (repeat first|exact trivial|refine ent1 ?_)
   refine eqC_bts (eqC_bts ?_)
   (repeat first|exact trivial|refine ent1 ?_)
   refine ⟨fun j hj=>eqC_bytes (fun i hi=>?_) j,rfl,fun j hj=>?_,trivial⟩
   ·show _=SC.w8 (L (exL s about 1) i)
    rw [show exL s about 1=M by rw [← hM2]; rfl]
    refine new_row (fun i hi=>?_) i hi
    show SC.mp _ (bytesF 32 (L M) (i+0))=_
    rw [bytesF_lt (by omega)]
    rfl
   ·show eqC _ _ (bytesF 32 (L (exT s about 1)) j) True
    rw [hM2]
    exact eqC_mpB
  ·obtain rfl:n=0:=by have:¬ (0:Int)<n:=of_decide_eq_false h; omega
   (repeat first|refine And.intro (by omega) ?_|refine And.intro (by decide) ?_|(with_reducible refine frc_parts (by first|omega|decide) ?_)|(with_reducible refine frc_bytesL (by first|omega|decide) ?_)|refine And.intro rfl ?_)
   refine ⟨.a (.c (.slc none 0 0)),[bts zs Ns os s.length (L s),bts za Na oa about.length (L about)],⟨[0,1],⟨rfl,rfl,rfl⟩,?_⟩,fun _=>⟨rfl,rfl⟩,fun h=>absurd h (by omega)⟩
   (repeat first|exact trivial|refine ent1 ?_)
   refine eqC_bts (eqC_bts ?_)
   (repeat first|exact trivial|refine ent1 ?_)
 ·rintro ⟨hk,hc,hcl⟩
  refine ⟨fun h=>?_,fun h=>?_⟩
  ·have hn:32*(k+1)<n:=by have:((32*(k+1):Nat):Int)<n:=of_decide_eq_true h; omega
   obtain ⟨T,hT⟩:∃ T,exT s about (k+1)=T:=⟨_,rfl⟩
   have hTl:T.length=32:=by rw [← hT,exT_len]
   obtain ⟨M,hM⟩:∃ M,markL s (T++about++[BitVec.ofNat 8 (k+2)])=M:=⟨_,rfl⟩
   have hM2:exT s about (k+2)=M:=by rw [← hM,← hT]; rfl
   rw [hT]
   have hMl:M.length=32:=by rw [← hM,markL_len]
   (repeat first|refine And.intro (by omega) ?_|refine And.intro (by decide) ?_|(with_reducible refine frc_parts (by first|omega|decide) ?_)|(with_reducible refine frc_bytesL (by first|omega|decide) ?_)|refine And.intro rfl ?_)
   refine ⟨by simp only [scale]; omega,⟨by decide,by decide,by decide⟩,fun c1 hc1=>?_⟩
   have r1:∀ i,i<0+32→appF (nthC []) 0 (scale 0 (0+1)) (scale 32 (0+1)) (fun q=>bytesF 32 (L T) (q+0)) i=.w8 (L ([]++T) i):=app_row (n:=0) (k:=32) rfl hTl (fun i hi=>absurd hi (by omega)) (fun i hi=>bytesF_lt hi)
   refine sn_bts (N:=Na) (b:=L about) ?_ hNa (fun h=>by rw [hza h]; rfl) (fun g hg=>?_)
   ·rfl
   refine ⟨⟨by omega,by simp only [scale]; omega,by show (0+32+about.length)*1≤140737488355328; omega⟩,fun c2 hc2=>?_⟩
   have r2:=app_row (n:=0+32) (by simp [hTl]) rfl r1 hg
   (repeat first|refine And.intro (by omega) ?_|refine And.intro (by decide) ?_|(with_reducible refine frc_parts (by first|omega|decide) ?_)|(with_reducible refine frc_bytesL (by first|omega|decide) ?_)|refine And.intro rfl ?_)
   refine ⟨⟨by omega,by simp only [scale]; omega,by show (0+32+about.length+1)*1≤140737488355328; omega⟩,fun c3 hc3=>?_⟩
   have r3:=app_row (m:=[BitVec.ofNat 8 (k+2)]) (k:=1) (by rw [List.length_append,List.nil_append,hTl,Nat.zero_add]) rfl r2 (one_row (BitVec.ofInt_natCast 8 (k+2)))
   rw [List.nil_append] at r3
   have hXl:(T++about++[BitVec.ofNat 8 (k+2)]).length=0+32+about.length+1:=by rw [List.length_append,List.length_append,hTl]; simp
   obtain ⟨X,hX⟩:∃ X,T++about++[BitVec.ofNat 8 (k+2)]=X:=⟨_,rfl⟩
   rw [hX] at r3 hXl hM
   refine ⟨by kernel_rfl,call_same (fn_rmark zs false Ns c3 os 0 cs c3 s X hNs hcs hzs (by omega) (by omega) (fun h=>Bool.noConfusion h) (by omega) (by omega)) [0,8] rfl ⟨rfl,rfl,rfl,rfl,rfl,rfl,hXl.symm,rfl,trivial⟩ ?_ (fun _ _=>trivial) ?_⟩
   ·refine eqC_bts ?_
    exact ⟨rfl,fun j hj=>eqC_win0 (fun i hi=>r3 i (by omega)) j,trivial⟩
   rintro x hs' ⟨c4,rfl,rfl,hc4⟩
   rw [hM]
   refine ⟨by simp only [scale]; omega,⟨by omega,by simp only [scale]; omega,by show (32*(k+1)+32)*1≤140737488355328; omega⟩,fun c5 hc5=>?_⟩
   refine ⟨⟨by omega,by omega⟩,some (k+1,c5,c4),[0,1,10,9],⟨⟨rfl,rfl,rfl⟩,?_⟩,⟨by omega,by omega,hc4⟩,by first|omega|(dsimp only; omega)⟩
   (repeat first|exact trivial|refine ent1 ?_)
   refine eqC_bts (eqC_bts ?_)
   (repeat first|exact trivial|refine ent1 ?_)
   refine ⟨fun j hj=>eqC_bytes (fun i hi=>?_) j,rfl,fun j hj=>?_,trivial⟩
   ·show _=SC.w8 (L (exL s about (k+2)) i)
    rw [show exL s about (k+2)=exL s about (k+1)++M by rw [← hM2]; rfl]
    refine app_row (exL_len _ _ _) hMl (fun i hi=>bytesF_lt hi) (fun i hi=>?_) i (by have:i<32*(k+1+1):=hi; omega)
    show SC.mp _ (bytesF 32 (L M) (i+0))=_
    rw [bytesF_lt (by omega)]
    rfl
   ·show eqC _ _ (bytesF 32 (L (exT s about (k+2))) j) True
    rw [hM2]
    exact eqC_mpB
  ·have hn:n≤32*(k+1):=by have:¬ ((32*(k+1):Nat):Int)<n:=of_decide_eq_false h; omega
   (repeat first|refine And.intro (by omega) ?_|refine And.intro (by decide) ?_|(with_reducible refine frc_parts (by first|omega|decide) ?_)|(with_reducible refine frc_bytesL (by first|omega|decide) ?_)|refine And.intro rfl ?_)
   refine ⟨.a (.c (.sl 2 0 0 n c)),[bts zs Ns os s.length (L s),bts za Na oa about.length (L about),[.row c (winF 0 n (exF s about))]],⟨[0,1,2],⟨rfl,rfl,rfl⟩,?_⟩,fun h=>absurd h (by omega),fun _=>⟨c,c,by omega,by omega,rfl,rfl⟩⟩
   refine ⟨?_,rfl,rfl,?_⟩
   ·split <;> rfl
   refine eqC_bts (eqC_bts ?_)
   (repeat first|exact trivial|refine ent1 ?_)
   exact ⟨fun j hj=>eqC_win0 (fun i hi=>by rw [bytesF_lt (by omega),exL_at _ _ _ _ (by omega)]) j,trivial⟩
end Sx
end
section
namespace Sha
def tls:Bs:=[116#8,108#8,115#8,49#8,51#8,32#8]
def labT (lab:List UInt8) (ctx:Bs) (n:Nat):Bs:=[BitVec.ofNat 8 (n / 256),BitVec.ofNat 8 n,BitVec.ofNat 8 (6+lab.length)]++tls++BS lab++[BitVec.ofNat 8 ctx.length]++ctx
theorem labT_len (lab:List UInt8) (ctx:Bs) (n:Nat):(labT lab ctx n).length=3+6+lab.length+1+ctx.length:=by simp [labT,tls]; omega
end Sha
namespace Sx
open Sha

theorem tls_row (i:Nat) (hi:i<6):SC.w8 (List.getD [116,108,115,49,51,32] i (0:UInt8)).toBitVec=.w8 (L tls i):=by
 have:i=0∨i=1∨i=2∨i=3∨i=4∨i=5:=by omega
 rcases this with rfl|rfl|rfl|rfl|rfl|rfl <;> rfl
theorem three {x y z x' y' z':BitVec 8} (hx:x=x') (hy:y=y') (hz:z=z') (i:Nat) (hi:i<3):nthC [.w8 x,.w8 y,.w8 z] i=.w8 (L [x',y',z'] i):=by
 subst hx; subst hy; subst hz
 have:i=0∨i=1∨i=2:=by omega
 rcases this with rfl|rfl|rfl <;> rfl
theorem ofNat_mod8 (n:Nat):BitVec.ofNat 8 (n % 256)=BitVec.ofNat 8 n:=by
 apply BitVec.eq_of_toNat_eq
 simp [BitVec.toNat_ofNat]
set_option maxRecDepth 20000 in
set_option maxHeartbeats 2000000 in
theorem fn_klabel (zc:Bool) (Nc oc cc:Nat) (s ctx:Bs) (lab:List UInt8) (many:Int) (dn:BitVec 32) (f g:Nat→BitVec 32) (hd:dn=0#32∨dn=1#32∧f=first∧g=steps)
  (hs:s.length=32) (hNc:oc+ctx.length≤Nc) (hcc:ctx.length≤cc) (hzc:zc=true→ctx=[]) :
  FnR Try.prog tds 49 1 [bts zc Nc oc ctx.length (L ctx),shaT dn 0 f g] [.c (.p 1 0 0),.agg [.row 32 fun i=>.w8 (L s i)],.c (.str lab),.c (.sn zc 0 0 oc ctx.length cc),.c (.int .i64 many)] (fun _=>True)
   (fun x hs=>((249<lab.length∨255<ctx.length)→x=.tup [.c (.slc none 0 0),.c (.int .i64 6)]∧hs=[bts zc Nc oc ctx.length (L ctx),shaT dn 0 f g]) ∧
    (lab.length≤249→ctx.length≤255→(many<0∨8160<many)→x=.tup [.c (.slc none 0 0),.c (.int .i64 2)]∧hs=[bts zc Nc oc ctx.length (L ctx),shaT dn 0 f g]) ∧
    (lab.length≤249→ctx.length≤255→0≤many→many≤8160→∃ (z:Bool) (N:Nat) (dn':BitVec 32) (f' g':Nat→BitVec 32),(dn'=0#32∨dn'=1#32∧f'=first∧g'=steps)∧(z=true→many.toNat=0)∧(0<many→z=false)∧many.toNat≤N ∧
     x=.tup [.c (.sn z 2 0 0 many.toNat many.toNat),.c (.int .i64 0)]∧hs=[bts zc Nc oc ctx.length (L ctx),shaT dn' 0 f' g',bts z N 0 many.toNat (exF s (labT lab ctx many.toNat))])):=by
 refine fn_of_body tds_ok follows_ Try.func49 rfl (t:=[.a (.c (.p 1 0 0)),.a (.agg [.row 32 fun i=>.w8 (L s i)]),.a (.c (.str (lab))),.a (.c (.sn zc 0 0 oc ctx.length cc)),.a (.c (.int .i64 (many))),.any,.any,.any,.any,.any,.any,.any,.any,.any,.any,.any,.any,.any,.any,.any,.any,.any,.any,.any,.any,.any,.any,.any,.any,.any,.any,.any,.any,.any,.any,.any,.any,.any,.any,.any,.any,.any,.any,.any,.any,.any,.any,.any,.any,.any,.any,.any,.any,.any,.any,.any,.any,.any,.any,.any]) rfl (fun w r0 hr _=>?_)
 obtain ⟨x0,x1,rfl⟩:=len2' hr
 (repeat first|refine And.intro (by omega) ?_|refine And.intro (by decide) ?_|(with_reducible refine frc_parts (by first|omega|decide) ?_)|(with_reducible refine frc_bytesL (by first|omega|decide) ?_)|refine And.intro rfl ?_)
 refine ⟨fun h=>Bool.noConfusion h,fun _=>?_⟩
 by_cases h0:249<lab.length
 ·have e0:decide ((249:Int)<(lab.length:Int))=true:=decide_eq_true (by omega)
  (repeat first|refine ⟨fun _=>?_,fun h=>absurd h (by rw [e0]; decide)⟩|refine ⟨fun h=>absurd h (by rw [e0]; decide),fun _=>?_⟩|refine ⟨fun _=>?_,fun h=>Bool.noConfusion h⟩|refine ⟨fun h=>Bool.noConfusion h,fun _=>?_⟩)
  refine ⟨.tup [.c (.slc none 0 0),.c (.int .i64 6)],[bts zc Nc oc ctx.length (L ctx),shaT dn 0 f g],⟨[0,1],⟨rfl,rfl,rfl⟩,?_⟩,fun _=>⟨rfl,rfl⟩,fun h=>absurd h (by omega),fun h=>absurd h (by omega)⟩
  (repeat first|exact trivial|refine ent1 ?_)
  refine eqC_bts ?_
  (repeat first|exact trivial|refine ent1 ?_)
 have e0:decide ((249:Int)<(lab.length:Int))=false:=decide_eq_false (by omega)
 by_cases h1:255<ctx.length
 ·have e1:decide ((255:Int)<(ctx.length:Int))=true:=decide_eq_true (by omega)
  (repeat first|refine ⟨fun _=>?_,fun h=>absurd h (by rw [e0]; decide)⟩|refine ⟨fun h=>absurd h (by rw [e0]; decide),fun _=>?_⟩|refine ⟨fun _=>?_,fun h=>absurd h (by rw [e1]; decide)⟩|refine ⟨fun h=>absurd h (by rw [e1]; decide),fun _=>?_⟩|refine ⟨fun _=>?_,fun h=>Bool.noConfusion h⟩|refine ⟨fun h=>Bool.noConfusion h,fun _=>?_⟩)
  refine ⟨.tup [.c (.slc none 0 0),.c (.int .i64 6)],[bts zc Nc oc ctx.length (L ctx),shaT dn 0 f g],⟨[0,1],⟨rfl,rfl,rfl⟩,?_⟩,fun _=>⟨rfl,rfl⟩,fun _ h=>absurd h (by omega),fun _ h=>absurd h (by omega)⟩
  (repeat first|exact trivial|refine ent1 ?_)
  refine eqC_bts ?_
  (repeat first|exact trivial|refine ent1 ?_)
 have e1:decide ((255:Int)<(ctx.length:Int))=false:=decide_eq_false (by omega)
 (repeat first|refine ⟨fun _=>?_,fun h=>absurd h (by rw [e0]; decide)⟩|refine ⟨fun h=>absurd h (by rw [e0]; decide),fun _=>?_⟩|refine ⟨fun _=>?_,fun h=>absurd h (by rw [e1]; decide)⟩|refine ⟨fun h=>absurd h (by rw [e1]; decide),fun _=>?_⟩|refine ⟨fun _=>?_,fun h=>Bool.noConfusion h⟩|refine ⟨fun h=>Bool.noConfusion h,fun _=>?_⟩)
 by_cases h2:many<0
 ·have e2:decide (many<0)=true:=decide_eq_true h2
  (repeat first|refine ⟨fun _=>?_,fun h=>absurd h (by rw [e2]; decide)⟩|refine ⟨fun h=>absurd h (by rw [e2]; decide),fun _=>?_⟩|refine ⟨fun _=>?_,fun h=>Bool.noConfusion h⟩|refine ⟨fun h=>Bool.noConfusion h,fun _=>?_⟩)
  refine ⟨.tup [.c (.slc none 0 0),.c (.int .i64 2)],[bts zc Nc oc ctx.length (L ctx),shaT dn 0 f g],⟨[0,1],⟨rfl,rfl,rfl⟩,?_⟩,fun h=>absurd h (by omega),fun _ _ _=>⟨rfl,rfl⟩,fun _ _ h=>absurd h (by omega)⟩
  (repeat first|exact trivial|refine ent1 ?_)
  refine eqC_bts ?_
  (repeat first|exact trivial|refine ent1 ?_)
 have e2:decide (many<0)=false:=decide_eq_false h2
 by_cases h3:65535<many
 ·have e3:decide (65535<many)=true:=decide_eq_true h3
  (repeat first|refine ⟨fun _=>?_,fun h=>absurd h (by rw [e2]; decide)⟩|refine ⟨fun h=>absurd h (by rw [e2]; decide),fun _=>?_⟩|refine ⟨fun _=>?_,fun h=>absurd h (by rw [e3]; decide)⟩|refine ⟨fun h=>absurd h (by rw [e3]; decide),fun _=>?_⟩|refine ⟨fun _=>?_,fun h=>Bool.noConfusion h⟩|refine ⟨fun h=>Bool.noConfusion h,fun _=>?_⟩)
  refine ⟨.tup [.c (.slc none 0 0),.c (.int .i64 2)],[bts zc Nc oc ctx.length (L ctx),shaT dn 0 f g],⟨[0,1],⟨rfl,rfl,rfl⟩,?_⟩,fun h=>absurd h (by omega),fun _ _ _=>⟨rfl,rfl⟩,fun _ _ _ h=>absurd h (by omega)⟩
  (repeat first|exact trivial|refine ent1 ?_)
  refine eqC_bts ?_
  (repeat first|exact trivial|refine ent1 ?_)
 have e3:decide (65535<many)=false:=decide_eq_false h3
 (repeat first|refine ⟨fun _=>?_,fun h=>absurd h (by rw [e2]; decide)⟩|refine ⟨fun h=>absurd h (by rw [e2]; decide),fun _=>?_⟩|refine ⟨fun _=>?_,fun h=>absurd h (by rw [e3]; decide)⟩|refine ⟨fun h=>absurd h (by rw [e3]; decide),fun _=>?_⟩|refine ⟨fun _=>?_,fun h=>Bool.noConfusion h⟩|refine ⟨fun h=>Bool.noConfusion h,fun _=>?_⟩)
 obtain ⟨n,rfl⟩:∃ n:Nat,many=n:=⟨many.toNat,by omega⟩
 (repeat first|refine And.intro (by omega) ?_|refine And.intro (by decide) ?_|(with_reducible refine frc_parts (by first|omega|decide) ?_)|(with_reducible refine frc_bytesL (by first|omega|decide) ?_)|refine And.intro rfl ?_)
 refine fun c1 hc1=>?_
 have r1:=app_row (l:=[BitVec.ofNat 8 (n / 256),BitVec.ofNat 8 n,BitVec.ofNat 8 (6+lab.length)]) (m:=tls) (n:=3) (k:=6) rfl rfl (f:=nthC [.w8 (BitVec.ofInt 8 ((n:Int) / 2 ^ 8)),.w8 (BitVec.ofInt 8 (n:Int)),.w8 (BitVec.ofInt 8 (6+(lab.length:Int)))]) (fun i hi=>three (by rw [show (n:Int) / 2 ^ 8=((n / 256:Nat):Int) by omega]; exact BitVec.ofInt_natCast 8 _) (BitVec.ofInt_natCast 8 n) (by rw [show 6+(lab.length:Int)=((6+lab.length:Nat):Int) by omega]; exact BitVec.ofInt_natCast 8 _) i hi) (g:=fun q=>.w8 (List.getD [116,108,115,49,51,32] q (0:UInt8)).toBitVec) (fun i hi=>tls_row i hi)
 refine And.intro ⟨by omega,by simp only [scale]; omega,by show (3+6+lab.length)*1≤140737488355328; omega⟩ fun c2 hc2=>?_
 have r2:=app_row (m:=BS lab) (n:=3+6) (k:=lab.length) rfl (BS_len lab) r1 (g:=fun q=>.w8 (lab.getD q 0).toBitVec) (fun i hi=>BS_row lab i hi)
 (repeat first|refine And.intro (by omega) ?_|refine And.intro (by decide) ?_|(with_reducible refine frc_parts (by first|omega|decide) ?_)|(with_reducible refine frc_bytesL (by first|omega|decide) ?_)|refine And.intro rfl ?_)
 refine And.intro ⟨by omega,by simp only [scale]; omega,by show (3+6+lab.length+1)*1≤140737488355328; omega⟩ fun c3 hc3=>?_
 have r3:=app_row (m:=[BitVec.ofNat 8 ctx.length]) (n:=3+6+lab.length) (k:=1) (by simp [tls]; try omega) rfl r2 (one_row (x:=BitVec.ofInt 8 (ctx.length:Int)) (BitVec.ofInt_natCast 8 ctx.length))
 refine sn_bts (N:=Nc) (b:=L ctx) ?_ hNc (fun h=>by rw [hzc h]; rfl) (fun gx hg=>?_)
 ·rfl
 refine And.intro ⟨by omega,by simp only [scale]; omega,by show (3+6+lab.length+1+ctx.length)*1≤140737488355328; omega⟩ fun c4 hc4=>?_
 have r4:=app_row (n:=3+6+lab.length+1) (by simp [tls]; try omega) rfl r3 hg
 have hTl:=labT_len lab ctx n
 obtain ⟨T,hT0⟩:∃ T,labT lab ctx n=T:=⟨_,rfl⟩
 rw [hT0] at hTl
 have hT:[BitVec.ofNat 8 (n / 256),BitVec.ofNat 8 n,BitVec.ofNat 8 (6+lab.length)]++tls++BS lab++[BitVec.ofNat 8 ctx.length]++ctx=T:=hT0
 rw [hT] at r4
 have hc4':T.length≤c4:=by rw [hTl]; exact hc4
 (repeat first|refine And.intro (by omega) ?_|refine And.intro (by decide) ?_|(with_reducible refine frc_parts (by first|omega|decide) ?_)|(with_reducible refine frc_bytesL (by first|omega|decide) ?_)|refine And.intro rfl ?_)
 refine call_same (fn_kexpand false c4 0 c4 s T (n:Int) dn f g hd hs (by omega) (by omega) (fun h=>Bool.noConfusion h)) [8,1] rfl ⟨rfl,rfl,rfl,fun j hj=>⟨rfl,trivial⟩,rfl,rfl,hTl.symm,rfl,rfl,trivial⟩ ?_ (fun _ _=>trivial) ?_
 ·refine ⟨rfl,fun j hj=>eqC_win0 (fun i hi=>r4 i (by omega)) j,?_⟩
  (repeat first|exact trivial|refine ent1 ?_)
 rintro x hs' ⟨hbad,hgood⟩
 by_cases h4:8160<(n:Int)
 ·obtain ⟨rfl,rfl⟩:=hbad (.inr h4)
  (repeat first|refine And.intro (by omega) ?_|refine And.intro (by decide) ?_|(with_reducible refine frc_parts (by first|omega|decide) ?_)|(with_reducible refine frc_bytesL (by first|omega|decide) ?_)|refine And.intro rfl ?_)
  refine ⟨.tup [.c (.slc none 0 0),.c (.int .i64 2)],[bts zc Nc oc ctx.length (L ctx),shaT dn 0 f g],⟨[0,1],⟨rfl,rfl,rfl⟩,?_⟩,fun h=>absurd h (by omega),fun _ _ _=>⟨rfl,rfl⟩,fun _ _ _ h=>absurd h (by omega)⟩
  (repeat first|exact trivial|refine ent1 ?_)
  refine eqC_bts ?_
  (repeat first|exact trivial|refine ent1 ?_)
 obtain ⟨z,N,dn',f',g',hd',hz,hz2,hN,rfl,rfl⟩:=hgood (by omega) (by omega)
 (repeat first|refine And.intro (by omega) ?_|refine And.intro (by decide) ?_|(with_reducible refine frc_parts (by first|omega|decide) ?_)|(with_reducible refine frc_bytesL (by first|omega|decide) ?_)|refine And.intro rfl ?_)
 refine ⟨.tup [.c (.sn z 2 0 0 n n),.c (.int .i64 0)],[bts zc Nc oc ctx.length (L ctx),shaT dn' 0 f' g',bts z N 0 n (exF s T)],⟨[0,1,9],⟨rfl,rfl,rfl⟩,?_⟩,fun h=>absurd h (by omega),fun _ _ h=>absurd h (by omega),fun _ _ _ _=>⟨z,N,dn',f',g',hd',hz,hz2,hN,rfl,by subst hT0; rfl⟩⟩
 (repeat first|exact trivial|refine ent1 ?_)
 refine eqC_bts ?_
 (repeat first|exact trivial|refine ent1 ?_)
 exact eqC_btsM trivial
set_option maxRecDepth 20000 in
set_option maxHeartbeats 2000000 in
theorem fn_rlabel (zs zc:Bool) (Ns Nc os oc cs cc:Nat) (s ctx:Bs) (lab:List UInt8) (n:Nat) (hNs:os+s.length≤Ns) (hcs:s.length≤cs) (hzs:zs=true→s=[]) (hNc:oc+ctx.length≤Nc) (hcc:ctx.length≤cc) (hzc:zc=true→ctx=[])
  (hsl:s.length<1000000) (hcl:ctx.length<100000) (hll:lab.length<100000) (hn:n≤100000) :
  FnR Try.prog tds 24 2 [bts zs Ns os s.length (L s),bts zc Nc oc ctx.length (L ctx)] [.c (.sn zs 0 0 os s.length cs),.c (.str lab),.c (.sn zc 1 0 oc ctx.length cc),.c (.int .i64 (n:Int))] (fun _=>True)
   (fun x hs=>(n=0→x=.a (.c (.slc none 0 0))∧hs=[bts zs Ns os s.length (L s),bts zc Nc oc ctx.length (L ctx)])∧(0<n→∃ N c:Nat,n≤N∧n≤c∧x=.a (.c (.sl 2 0 0 n c))∧hs=[bts zs Ns os s.length (L s),bts zc Nc oc ctx.length (L ctx),[.row N (winF 0 n (exF s (labT lab ctx n)))]])):=by
 refine fn_of_body tds_ok follows_ Try.func24 rfl (t:=[.a (.c (.sn zs 0 0 os s.length cs)),.a (.c (.str (lab))),.a (.c (.sn zc 1 0 oc ctx.length cc)),.a (.c (.int .i64 (↑n))),.any,.any,.any,.any,.any,.any,.any,.any,.any,.any,.any,.any,.any,.any,.any,.any,.any,.any,.any,.any,.any,.any,.any,.any,.any,.any,.any,.any,.any,.any,.any,.any,.any,.any]) rfl (fun w r0 hr _=>?_)
 obtain ⟨x0,x1,rfl⟩:=len2' hr
 (repeat first|refine And.intro (by omega) ?_|refine And.intro (by decide) ?_|(with_reducible refine frc_parts (by first|omega|decide) ?_)|(with_reducible refine frc_bytesL (by first|omega|decide) ?_)|refine And.intro rfl ?_)
 refine fun c1 hc1=>?_
 have r1:=app_row (l:=[BitVec.ofNat 8 (n / 256),BitVec.ofNat 8 n,BitVec.ofNat 8 (6+lab.length)]) (m:=tls) (n:=3) (k:=6) rfl rfl (f:=nthC [.w8 (BitVec.ofInt 8 ((n:Int) / 256)),.w8 (BitVec.ofInt 8 ((n:Int) % 256)),.w8 (BitVec.ofInt 8 (6+(lab.length:Int)))]) (fun i hi=>three (by rw [show (n:Int) / 256=((n / 256:Nat):Int) by omega]; exact BitVec.ofInt_natCast 8 _) (by rw [show (n:Int) % 256=((n % 256:Nat):Int) by omega]; exact (BitVec.ofInt_natCast 8 _).trans (ofNat_mod8 n)) (by rw [show 6+(lab.length:Int)=((6+lab.length:Nat):Int) by omega]; exact BitVec.ofInt_natCast 8 _) i hi) (g:=fun q=>.w8 (List.getD [116,108,115,49,51,32] q (0:UInt8)).toBitVec) (fun i hi=>tls_row i hi)
 refine And.intro ⟨by omega,by simp only [scale]; omega,by show (3+6+lab.length)*1≤140737488355328; omega⟩ fun c2 hc2=>?_
 have r2:=app_row (m:=BS lab) (n:=3+6) (k:=lab.length) rfl (BS_len lab) r1 (g:=fun q=>.w8 (lab.getD q 0).toBitVec) (fun i hi=>BS_row lab i hi)
 (repeat first|refine And.intro (by omega) ?_|refine And.intro (by decide) ?_|(with_reducible refine frc_parts (by first|omega|decide) ?_)|(with_reducible refine frc_bytesL (by first|omega|decide) ?_)|refine And.intro rfl ?_)
 refine And.intro ⟨by omega,by simp only [scale]; omega,by show (3+6+lab.length+1)*1≤140737488355328; omega⟩ fun c3 hc3=>?_
 have r3:=app_row (m:=[BitVec.ofNat 8 ctx.length]) (n:=3+6+lab.length) (k:=1) (by simp [tls]; try omega) rfl r2 (one_row (x:=BitVec.ofInt 8 (ctx.length:Int)) (BitVec.ofInt_natCast 8 ctx.length))
 refine sn_bts (N:=Nc) (b:=L ctx) ?_ hNc (fun h=>by rw [hzc h]; rfl) (fun gx hg=>?_)
 ·rfl
 refine And.intro ⟨by omega,by simp only [scale]; omega,by show (3+6+lab.length+1+ctx.length)*1≤140737488355328; omega⟩ fun c4 hc4=>?_
 have r4:=app_row (n:=3+6+lab.length+1) (by simp [tls]; try omega) rfl r3 hg
 have hTl:=labT_len lab ctx n
 obtain ⟨T,hT0⟩:∃ T,labT lab ctx n=T:=⟨_,rfl⟩
 rw [hT0] at hTl
 rw [hT0]
 have hT:[BitVec.ofNat 8 (n / 256),BitVec.ofNat 8 n,BitVec.ofNat 8 (6+lab.length)]++tls++BS lab++[BitVec.ofNat 8 ctx.length]++ctx=T:=hT0
 rw [hT] at r4
 have hc4':T.length≤c4:=by rw [hTl]; exact hc4
 (repeat first|refine And.intro (by omega) ?_|refine And.intro (by decide) ?_|(with_reducible refine frc_parts (by first|omega|decide) ?_)|(with_reducible refine frc_bytesL (by first|omega|decide) ?_)|refine And.intro rfl ?_)
 refine call_same (fn_rexpand zs false Ns c4 os 0 cs c4 s T n hNs hcs hzs (by omega) (by omega) (fun h=>Bool.noConfusion h) hsl (by omega) hn) [0,7] rfl ⟨rfl,rfl,rfl,rfl,rfl,rfl,hTl.symm,rfl,rfl,trivial⟩ ?_ (fun _ _=>trivial) ?_
 ·refine eqC_bts ?_
  exact ⟨rfl,fun j hj=>eqC_win0 (fun i hi=>r4 i (by omega)) j,trivial⟩
 rintro x hs' ⟨h0,h1⟩
 by_cases h4:n=0
 ·obtain ⟨rfl,rfl⟩:=h0 h4
  refine ⟨.a (.c (.slc none 0 0)),[bts zs Ns os s.length (L s),bts zc Nc oc ctx.length (L ctx)],⟨[0,1],⟨rfl,rfl,rfl⟩,?_⟩,fun _=>⟨rfl,rfl⟩,fun h=>absurd h (by omega)⟩
  (repeat first|exact trivial|refine ent1 ?_)
  refine eqC_bts (eqC_bts ?_)
  (repeat first|exact trivial|refine ent1 ?_)
 obtain ⟨N,c,hN,hc,rfl,rfl⟩:=h1 (by omega)
 refine ⟨.a (.c (.sl 2 0 0 n c)),[bts zs Ns os s.length (L s),bts zc Nc oc ctx.length (L ctx),[.row N (winF 0 n (exF s T))]],⟨[0,1,8],⟨rfl,rfl,rfl⟩,?_⟩,fun h=>absurd h h4,fun _=>⟨N,c,hN,hc,rfl,rfl⟩⟩
 (repeat first|exact trivial|refine ent1 ?_)
 refine eqC_bts (eqC_bts ?_)
 (repeat first|exact trivial|refine ent1 ?_)
end Sx
end
end Go.Proofs.Ytgmbfaefadefjaa
