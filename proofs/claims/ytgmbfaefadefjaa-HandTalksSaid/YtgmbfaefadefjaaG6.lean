/-
  Texts of this claim, part 6: VwC, PmD, PmE, PmF, PmL, VrA, PmG, PmH, Sxw, Sxv, Sxs, PmI, HnA, HnB, HnC, HnD, HnE, Once, Once2, Sxr, AesM, AesA, ShaM, ShaA, ShaN, ShaB, ShaC, ShaP, AesR, AesR2, ShaD. No condition of its own.
-/
import Derived.OpenShut
import Derived.ChangeArms
import Derived.Tactics
import Derived.Tactics2
import Derived.Defers
import Derived.Laws.Pointers
import Derived.Laws.LoneSync
import Derived.RegionTactic
import Derived.RegionCalls
import Derived.ChangeAlike
import Derived.Test.YtgmbfaefadefjaaG5
namespace Go.Proofs.Ytgmbfaefadefjaa
set_option linter.unusedVariables false
section
namespace Vi
open Sha
def longL (l:Bs):Bs:=putL (BitVec.ofNat 64 l.length)++l
theorem lenN_of {n:Nat} (h:n≤1000000):lenN (BitVec.ofNat 64 n)≠0:=by
 have:=lenN_spec (BitVec.ofNat 64 n)
 rw [BitVec.toNat_ofNat,Nat.mod_eq_of_lt (by omega)] at this
 omega
theorem longL_len (l:Bs):(longL l).length≤8+l.length:=by
 have:=lenN_le (BitVec.ofNat 64 l.length)
 simp only [longL,List.length_append,putL_len]
 omega
end Vi
namespace Sx
open Sha Vi

set_option maxRecDepth 20000 in
theorem fn_wlong (s:Sl) (hs:s.Ok) (b:Bs) (c:Nat) (hb:b.length≤400000) (hc:b.length≤c):FnR Try.prog tds 34 1 [svB s,wrC 2 b c,lsC b c] [.c (.p 1 0 0),.c (svC 0 s)] (fun _=>True)
  (fun y hs=>∃ c',(b++longL s.l).length≤c'∧y=.tup []∧hs=[svB s,wrC 3 (b++longL s.l) c',[],lsC (b++longL s.l) c']):=by
 refine fn_of_body tds_ok follows_ Try.func34 rfl (t:=.a (.c (.p 1 0 0))::.a (.c (svC 0 s))::anys (Try.f34.ntmps-2)) rfl (fun w r0 hr0 _=>?_)
 obtain ⟨x0,x1,x2,rfl⟩:=len3' hr0
 have hsm:=hs.small
 have hne:=lenN_of hsm
 (repeat first|refine And.intro (by omega) ?_|refine And.intro (by decide) ?_|(with_reducible refine frc_parts (by first|omega|decide) ?_)|(with_reducible refine frc_bytesL (by first|omega|decide) ?_)|refine And.intro rfl ?_)
 refine call_same (fn_wint [BitVec.ofNat 64 s.l.length] 1 1 b c (fun n hn=>by simp at hn; rw [hn]; exact hne) (Nat.le_refl _) (by simp) (by omega) hc) [3,1,2] rfl (by (repeat first|exact trivial|refine ent1 ?_)) ?_ (fun _ _=>trivial) ?_
 ·refine ⟨rfl,fun j hj=>eqC_nums (fun i x h=>?_) j,?_⟩
  ·have hi:i=0:=by
    have:=(List.getElem?_eq_some_iff.1 h).1
    simp at this
    exact this
   subst hi
   simp at h
   subst h
   show SC.w64 (BitVec.ofInt 64 ((s.l.length:Nat):Int))=_
   rw [BitVec.ofInt_natCast]
  (repeat first|exact trivial|refine ent1 ?_)
 rintro x hs' ⟨-,hx⟩
 obtain ⟨c1,hc1,rfl,rfl⟩:=hx (by simp)
 clear hx
 obtain ⟨B,hB⟩:∃ B,b++putAll [BitVec.ofNat 64 s.l.length]=B:=⟨_,rfl⟩
 have hBl:B.length≤400008:=by
  have:=putAll_len [BitVec.ofNat 64 s.l.length]
  rw [← hB,List.length_append]
  simp only [List.length_cons,List.length_nil] at this
  omega
 rw [hB] at hc1 ⊢
 have hf:b++longL s.l=B++s.l:=by rw [← hB]; simp [longL,putAll]
 rw [hf]
 (repeat first|refine And.intro (by omega) ?_|refine And.intro (by decide) ?_|(with_reducible refine frc_parts (by first|omega|decide) ?_)|(with_reducible refine frc_bytesL (by first|omega|decide) ?_)|refine And.intro rfl ?_)
 refine call_same (fn_wbytes s hs B c1 (by omega) hc1) [0,1,4] rfl (by (repeat first|exact trivial|refine ent1 ?_)) ?_ (fun _ _=>trivial) ?_
 ·refine eqC_bts ?_
  (repeat first|exact trivial|refine ent1 ?_)
 rintro x hs' ⟨c2,hc2,rfl,rfl⟩
 refine ⟨.tup [],_,⟨[0,1,2,5],⟨rfl,rfl,rfl⟩,?_⟩,c2,hc2,rfl,rfl⟩
 refine eqC_bts ?_
 (repeat first|exact trivial|refine ent1 ?_)
set_option maxRecDepth 20000 in
theorem fn_wdone (b:Bs) (c:Nat) (hb:b.length≤1000000) (hc:b.length≤c) (h0:0<b.length):FnR Try.prog tds 35 2 [wrC 1 b c,lsC b c] [.c (.p 0 0 0)] (fun _=>True)
  (fun y hs=>∃ c',b.length≤c'∧y=.tup [.c (.sl 2 0 0 b.length c'),.c (.int .i64 0)]∧hs=[wrC 1 b c,lsC b c,lsC b c']):=by
 refine fn_of_body tds_ok follows_ Try.func35 rfl (t:=.a (.c (.p 0 0 0))::anys (Try.f35.ntmps-1)) rfl (fun w r0 hr0 _=>?_)
 obtain ⟨x0,x1,rfl⟩:=len2' hr0
 (repeat first|refine And.intro (by omega) ?_|refine And.intro (by decide) ?_|refine And.intro rfl ?_|refine And.intro (fun _=>?_) (fun h=>Bool.noConfusion h)|refine And.intro (fun h=>Bool.noConfusion h) (fun _=>?_))
 refine ⟨by show 0+b.length≤c; omega,⟨rfl,rfl⟩,by show b.length*1≤140737488355328; omega,fun hm0=>absurd hm0 (by omega),fun hm0 c' hc'=>?_⟩
 refine ⟨.tup [.c (.sl 2 0 0 b.length c'),.c (.int .i64 0)],_,⟨[0,1,2],⟨rfl,rfl,rfl⟩,?_⟩,c',hc',rfl,rfl⟩
 (repeat first|exact trivial|refine ent1 ?_)
 exact ⟨fun j hj=>eqC_bytes (fun i hi=>new_row (m:=b) (fun q hq=>bytesF_lt hq) i hi) j,trivial⟩
end Sx
end
section
namespace Sx
open Sha Vi

set_option maxRecDepth 20000 in
theorem fn_wint0 (l:List (BitVec 64)) (M cm:Nat) (hl:∀ n∈l,lenN n≠0) (hM:l.length≤M) (hlm:l.length≤1000) (h0:l≠[]) :
  FnR Try.prog tds 55 1 [[.row M (numsF l)],wrN] [.c (.p 1 0 0),.c (.sl 0 0 0 l.length cm)] (fun _=>True)
  (fun y hs=>∃ c',(putAll l).length≤c'∧y=.tup []∧hs=[[.row M (numsF l)],wrC 2 (putAll l) c',lsC (putAll l) c']):=by
 refine fn_of_body tds_ok follows_ Try.func55 rfl (t:=.a (.c (.p 1 0 0))::.a (.c (.sl 0 0 0 l.length cm))::anys (Try.f55.ntmps-2)) rfl (fun w r0 hr0 _=>?_)
 obtain ⟨x0,x1,rfl⟩:=len2' hr0
 (repeat first|refine And.intro (by omega) ?_|refine And.intro (by decide) ?_|refine And.intro rfl ?_|refine And.intro (fun _=>?_) (fun h=>Bool.noConfusion h)|refine And.intro (fun h=>Bool.noConfusion h) (fun _=>?_))
 refine .inl ⟨Option (Nat × Nat × Bs),fun x=>match x with
  | none=>⟨[.a (.c (.p 1 0 0)),.any,.any,.any,.any,.any,.any,.any,.any,.any,.any,.any,.any,.any,.any,.any,.a (.c (.sl 0 0 0 l.length cm)),.a (.c (.int .i64 ((l.length:Nat)))),.a (.c (.int .i64 (0))),.any,.any,.any,.any,.any,.any,.any,.any,.any,.any,.any,.any,.any,.any,.any,.any,.any,.any,.any,.any,.any],[[.row M (numsF l)],wrN]⟩
  | some (j,c',B)=>⟨[.a (.c (.p 1 0 0)),.any,.any,.any,.any,.any,.any,.any,.any,.any,.any,.any,.any,.any,.any,.any,.a (.c (.sl 0 0 0 l.length cm)),.a (.c (.int .i64 ((l.length:Nat)))),.a (.c (.int .i64 ((j:Nat)))),.any,.any,.any,.any,.any,.any,.any,.any,.any,.any,.any,.any,.any,.any,.any,.any,.any,.any,.any,.any,.any],[[.row M (numsF l)],wrC 2 B c',lsC B c']⟩,
  fun x=>match x with
  | none=>True
  | some (j,c',B)=>1≤j∧j≤l.length∧B.length≤c'∧B=putAll (l.take j),fun x=>match x with
  | none=>l.length+1
  | some (j,_,_)=>l.length-j,⟨none,[0,1],⟨⟨rfl,rfl,rfl⟩,?_⟩,trivial⟩,fun x=>?_⟩
 ·(repeat first|exact trivial|refine ent1 ?_)
  exact ⟨fun j hj=>eqC_numsS,by (repeat first|exact trivial|refine ent1 ?_)⟩
 rcases x with _|⟨j,c',B⟩
 ·intro _
  refine ⟨fun h=>?_,fun h=>?_⟩
  ·have hl0:0<l.length:=by have:(0:Int)<(l.length:Int):=of_decide_eq_true h; omega
   obtain ⟨n,hn⟩:∃ n,l[0]?=some n:=⟨l[0],List.getElem?_eq_getElem hl0⟩
   have hne:=hl n (List.mem_of_getElem? hn)
   (repeat first|refine And.intro (by omega) ?_|refine And.intro (by decide) ?_|(with_reducible refine frc_parts (by first|omega|decide) ?_)|(with_reducible refine frc_bytesL (by first|omega|decide) ?_)|refine And.intro rfl ?_)
   have hn':l[Int.toNat 0+0]?=some n:=hn
   with_reducible refine frc_nums hn' ?_
   (repeat first|refine And.intro (by omega) ?_|refine And.intro (by decide) ?_|(with_reducible refine frc_parts (by first|omega|decide) ?_)|(with_reducible refine frc_bytesL (by first|omega|decide) ?_)|refine And.intro rfl ?_)
   refine call_same (fn_vlen n) [] rfl (by (repeat first|exact trivial|refine ent1 ?_)) trivial (fun _ _=>trivial) ?_
   rintro x hs ⟨rfl,rfl⟩
   have e1:decide ((lenN n:Int)=0)=false:=decide_eq_false (by omega)
   (repeat first|refine And.intro (by omega) ?_|refine And.intro (by decide) ?_|refine And.intro rfl ?_|refine And.intro (fun _=>?_) (fun h=>Bool.noConfusion h)|refine And.intro (fun h=>Bool.noConfusion h) (fun _=>?_)|refine And.intro (fun _=>?_) (fun h=>absurd h (by rw [e1]; decide))|refine And.intro (fun h=>absurd h (by rw [e1]; decide)) (fun _=>?_))
   refine call_same (fn_vattach0 n (lenN n) (lenN_ok hne)) [] rfl (by (repeat first|exact trivial|refine ent1 ?_)) trivial (fun _ _=>trivial) ?_
   rintro x hs ⟨c',hc',rfl,rfl⟩
   have ep:putAll (l.take 1)=wideL n (lenN n):=by
    rw [take_succ hn,putAll_snoc]; simp [putAll,putL]
   (repeat first|refine And.intro (by omega) ?_|refine And.intro (by decide) ?_|(with_reducible refine frc_parts (by first|omega|decide) ?_)|(with_reducible refine frc_bytesL (by first|omega|decide) ?_)|refine And.intro rfl ?_)
   refine ⟨some (1,c',wideL n (lenN n)),[0,1,2],⟨⟨rfl,rfl,rfl⟩,?_⟩,⟨by omega,by omega,by simpa using hc',by rw [ep]⟩,by dsimp only; omega⟩
   (repeat first|exact trivial|refine ent1 ?_)
   exact ⟨fun j hj=>eqC_numsS,by (repeat first|exact trivial|refine ent1 ?_)⟩
  ·have hl0:l=[]:=List.eq_nil_of_length_eq_zero (by have:¬ (0:Int)<(l.length:Int):=of_decide_eq_false h; omega)
   exact absurd hl0 h0
 ·rintro ⟨h1,h2,h3,hB⟩
  refine ⟨fun h=>?_,fun h=>?_⟩
  ·have hj:j<l.length:=by have:(j:Int)<(l.length:Int):=of_decide_eq_true h; omega
   obtain ⟨n,hn⟩:∃ n,l[j]?=some n:=⟨l[j],List.getElem?_eq_getElem hj⟩
   have hne:=hl n (List.mem_of_getElem? hn)
   (repeat first|refine And.intro (by omega) ?_|refine And.intro (by decide) ?_|(with_reducible refine frc_parts (by first|omega|decide) ?_)|(with_reducible refine frc_bytesL (by first|omega|decide) ?_)|refine And.intro rfl ?_)
   have hn':l[((j:Nat):Int).toNat+0]?=some n:=hn
   with_reducible refine frc_nums hn' ?_
   (repeat first|refine And.intro (by omega) ?_|refine And.intro (by decide) ?_|(with_reducible refine frc_parts (by first|omega|decide) ?_)|(with_reducible refine frc_bytesL (by first|omega|decide) ?_)|refine And.intro rfl ?_)
   refine call_same (fn_vlen n) [] rfl (by (repeat first|exact trivial|refine ent1 ?_)) trivial (fun _ _=>trivial) ?_
   rintro x hs ⟨rfl,rfl⟩
   have e1:decide ((lenN n:Int)=0)=false:=decide_eq_false (by omega)
   (repeat first|refine And.intro (by omega) ?_|refine And.intro (by decide) ?_|refine And.intro rfl ?_|refine And.intro (fun _=>?_) (fun h=>Bool.noConfusion h)|refine And.intro (fun h=>Bool.noConfusion h) (fun _=>?_)|refine And.intro (fun _=>?_) (fun h=>absurd h (by rw [e1]; decide))|refine And.intro (fun h=>absurd h (by rw [e1]; decide)) (fun _=>?_))
   have hpl:=putAll_len (l.take j)
   have htl:(l.take j).length≤1000:=by rw [List.length_take]; omega
   refine call_same (fn_vattach B c' n (lenN n) (lenN_ok hne) (by rw [hB]; have:(putAll (l.take j)).length≤8*(l.take j).length:=hpl; omega) h3) [2] rfl (by (repeat first|exact trivial|refine ent1 ?_)) ?_ (fun _ _=>trivial) ?_
   ·(repeat first|exact trivial|refine ent1 ?_)
   rintro x hs ⟨c2,hc2,rfl,rfl⟩
   have ep:putAll (l.take (j+1))=putAll (l.take j)++wideL n (lenN n):=by
    rw [take_succ hn,putAll_snoc]; rfl
   (repeat first|refine And.intro (by omega) ?_|refine And.intro (by decide) ?_|(with_reducible refine frc_parts (by first|omega|decide) ?_)|(with_reducible refine frc_bytesL (by first|omega|decide) ?_)|refine And.intro rfl ?_)
   refine ⟨some (j+1,c2,B++wideL n (lenN n)),[0,1,3],⟨⟨rfl,rfl,rfl⟩,?_⟩,⟨by omega,by omega,by simpa using hc2,by rw [ep,hB]⟩,by dsimp only; omega⟩
   (repeat first|exact trivial|refine ent1 ?_)
   exact ⟨fun j hj=>eqC_numsS,by (repeat first|exact trivial|refine ent1 ?_)⟩
  ·have hj:j=l.length:=by have:¬ (j:Int)<(l.length:Int):=of_decide_eq_false h; omega
   subst hj
   rw [List.take_length] at hB
   subst hB
   (repeat first|refine And.intro (by omega) ?_|refine And.intro (by decide) ?_|(with_reducible refine frc_parts (by first|omega|decide) ?_)|(with_reducible refine frc_bytesL (by first|omega|decide) ?_)|refine And.intro rfl ?_)
   refine ⟨.tup [],_,⟨[0,1,2],⟨rfl,rfl,rfl⟩,?_⟩,c',h3,rfl,rfl⟩
   exact ⟨rfl,fun j hj=>eqC_numsS,by (repeat first|exact trivial|refine ent1 ?_)⟩
end Sx
end
section
namespace Sx
open Sha Vi

abbrev numL (id n:BitVec 64):Bs:=putAll [id,BitVec.ofInt 64 (lenN n:Int),n]
theorem lenN_small (n:BitVec 64):lenN (BitVec.ofInt 64 (lenN n:Int))≠0:=by
 have:=lenN_of (n:=lenN n) (by have:=lenN_le n; omega)
 exact this
theorem nums3 (a b c:BitVec 64):∀ (j:Nat) (x:BitVec 64),[a,b,c][j]?=some x→nthC [.w64 a,.w64 b,.w64 c] j=.w64 x
 | 0,x,h=>by simp at h; subst h; rfl
 | 1,x,h=>by simp at h; subst h; rfl
 | 2,x,h=>by simp at h; subst h; rfl
 | j+3,x,h=>by simp at h
set_option maxRecDepth 20000 in
theorem fn_number0 (id n:BitVec 64) (h1:lenN id≠0) (h2:lenN n≠0) :
  Fn Try.prog tds 54 [wrN] [.c (.w64 id),.c (.w64 n),.c (.p 0 0 0)] (fun _=>True)
  (fun y hs=>∃ B c',B=numL id n∧B.length≤c'∧y=.tup []∧hs=[wrC 1 B c',lsC B c']):=by
 refine fn_of_body tds_ok follows_ Try.func54 rfl (t:=.a (.c (.w64 id))::.a (.c (.w64 n))::.a (.c (.p 0 0 0))::anys (Try.f54.ntmps-3)) rfl (fun w r0 hr0 _=>?_)
 obtain ⟨x0,rfl⟩:=List.length_eq_one_iff.1 hr0
 (repeat show _∧_;first|refine yr ?_|refine yt ?_|refine yf ?_|refine yo ?_)
 refine call_same (fn_vlen n) [] rfl (by (repeat first|exact trivial|refine ent1 ?_)) trivial (fun _ _=>trivial) ?_
 rintro x hs ⟨rfl,rfl⟩
 (repeat show _∧_;first|refine yr ?_|refine yt ?_|refine yf ?_|refine yo ?_)
 refine call_same (fn_wint0 [id,BitVec.ofInt 64 (lenN n:Int),n] 3 3 (by intro x hx; simp at hx; rcases hx with rfl|rfl|rfl; exact h1; exact lenN_small n; exact h2) (Nat.le_refl _) (by simp) (by simp)) [1,0] rfl (by (repeat first|exact trivial|refine ent1 ?_)) ?_ (fun _ _=>trivial) ?_
 ·(repeat first|exact trivial|refine ent1 ?_)
  refine ⟨fun j hj=>eqC_nums (nums3 _ _ _) j,?_⟩
  (repeat first|exact trivial|refine ent1 ?_)
 rintro x hs ⟨c',hc',rfl,rfl⟩
 (repeat show _∧_;first|refine yr ?_|refine yt ?_|refine yf ?_|refine yo ?_)
 refine ⟨.tup [],_,⟨[0,2],⟨rfl,rfl,rfl⟩,?_⟩,_,c',rfl,hc',rfl,rfl⟩
 (repeat first|exact trivial|refine ent1 ?_)
set_option maxRecDepth 20000 in
theorem fn_number (id n:BitVec 64) (b:Bs) (c:Nat) (h1:lenN id≠0) (h2:lenN n≠0) (hb:b.length≤500000) (hc:b.length≤c) :
  Fn Try.prog tds 54 [wrC 1 b c,lsC b c] [.c (.w64 id),.c (.w64 n),.c (.p 0 0 0)] (fun _=>True)
  (fun y hs=>∃ B c',B=b++numL id n∧B.length≤c'∧y=.tup []∧hs=[wrC 2 B c',[],lsC B c']):=by
 refine fn_of_body tds_ok follows_ Try.func54 rfl (t:=.a (.c (.w64 id))::.a (.c (.w64 n))::.a (.c (.p 0 0 0))::anys (Try.f54.ntmps-3)) rfl (fun w r0 hr0 _=>?_)
 obtain ⟨x0,x1,rfl⟩:=len2' hr0
 (repeat show _∧_;first|refine yr ?_|refine yt ?_|refine yf ?_|refine yo ?_)
 refine call_same (fn_vlen n) [] rfl (by (repeat first|exact trivial|refine ent1 ?_)) trivial (fun _ _=>trivial) ?_
 rintro x hs ⟨rfl,rfl⟩
 (repeat show _∧_;first|refine yr ?_|refine yt ?_|refine yf ?_|refine yo ?_)
 refine call_same (fn_wint [id,BitVec.ofInt 64 (lenN n:Int),n] 3 3 b c (by intro x hx; simp at hx; rcases hx with rfl|rfl|rfl; exact h1; exact lenN_small n; exact h2) (Nat.le_refl _) (by simp) hb hc) [2,0,1] rfl (by (repeat first|exact trivial|refine ent1 ?_)) ?_ (fun _ _=>trivial) ?_
 ·(repeat first|exact trivial|refine ent1 ?_)
  refine ⟨fun j hj=>eqC_nums (nums3 _ _ _) j,?_⟩
  (repeat first|exact trivial|refine ent1 ?_)
 rintro x hs ⟨-,hk⟩
 obtain ⟨c',hc',rfl,rfl⟩:=hk (by simp)
 (repeat show _∧_;first|refine yr ?_|refine yt ?_|refine yf ?_|refine yo ?_)
 refine ⟨.tup [],_,⟨[0,1,3],⟨rfl,rfl,rfl⟩,?_⟩,_,c',rfl,hc',rfl,rfl⟩
 (repeat first|exact trivial|refine ent1 ?_)
end Sx
end
section
namespace Sx
open Sha Vi

def putP (p:Pm):Bs:=numL 1#64 p.a0++numL 4#64 p.a1++numL 5#64 p.a2++numL 6#64 p.a3++numL 7#64 p.a4++numL 8#64 p.a5++numL 9#64 p.a6++numL 11#64 p.a7++numL 14#64 p.a8++putAll [15#64]++longL p.s.l
theorem numL_len (id n:BitVec 64):(numL id n).length≤24:=putAll_len [id,BitVec.ofInt 64 (lenN n:Int),n]
theorem one_len (n:BitVec 64):(putAll [n]).length≤8:=putAll_len [n]
theorem one_15:(putAll [15#64]).length=1:=by decide
theorem app_len {a b:Bs} {m n:Nat} (h1:a.length≤m) (h2:b.length≤n):(a++b).length≤m+n:=by rw [List.length_append]; omega
theorem nums1 (a:BitVec 64):∀ (j:Nat) (x:BitVec 64),[a][j]?=some x→nthC [.w64 a] j=.w64 x
 | 0,x,h=>by simp at h; subst h; rfl
 | j+1,x,h=>by simp at h
theorem small_len {n:BitVec 64} (h:n≤1073741824#64):lenN n≠0:=by
 unfold lenN
 have h1:n.toNat≤1073741824:=h
 split
 ·decide
 split
 ·decide
 split
 ·decide
 split
 ·decide
 ·rename_i h2
  have h2:¬ n.toNat<4611686018427387904:=h2
  omega
theorem m2_le {a b c:BitVec 64} (h:m2 a b≤c):a≤c∧b≤c:=by
 unfold m2 at h
 split at h
 ·rename_i h1
  exact ⟨Nat.le_trans (Nat.le_of_lt h1) h,h⟩
 ·rename_i h1
  exact ⟨h,Nat.le_trans (Nat.le_of_not_lt h1) h⟩
theorem check_ok {p:Pm} (h:checkP p=0):p.a0.toNat≤1073741824∧(p.a1.toNat≤65536∧p.a2.toNat≤65536∧p.a3.toNat≤65536∧p.a4.toNat≤65536)∧(p.a5.toNat≤8∧p.a6.toNat≤8)∧p.a7.toNat<16384∧(2≤p.a8.toNat∧p.a8.toNat≤4)∧p.s.l.length≤20:=by
 unfold checkP at h
 split at h
 ·exact absurd h (by decide)
 rename_i h1
 split at h
 ·exact absurd h (by decide)
 rename_i h2
 split at h
 ·exact absurd h (by decide)
 rename_i h3
 split at h
 ·exact absurd h (by decide)
 rename_i h4
 split at h
 ·exact absurd h (by decide)
 rename_i h5
 split at h
 ·exact absurd h (by decide)
 rename_i h6
 split at h
 ·exact absurd h (by decide)
 rename_i h7
 split at h
 ·exact absurd h (by decide)
 rename_i h8
 have h1:m4 p.a1 p.a2 p.a3 p.a4≤65536#64:=Nat.le_of_not_lt h1
 obtain ⟨hx,q4⟩:=m2_le h1
 obtain ⟨hx,q3⟩:=m2_le hx
 obtain ⟨q1,q2⟩:=m2_le hx
 exact ⟨Nat.le_of_not_lt h2,⟨q1,q2,q3,q4⟩,⟨Nat.le_of_not_lt h4,Nat.le_of_not_lt h5⟩,Nat.lt_of_not_le h3,⟨Nat.le_of_not_lt h6,Nat.le_of_not_lt h7⟩,by omega⟩
set_option maxRecDepth 20000 in
set_option maxHeartbeats 4000000 in
theorem fn_pput (p:Pm) (hp:p.s.Ok):FnR Try.prog tds 32 1 [svB p.s] [.agg (pmC 0 p)] (fun _=>True)
  (fun y hs=>∃ t:Sl,t.Ok∧(checkP p=0→t.l=putP p)∧y=.tup [.c (svC 1 t),.c (.int .i64 (checkP p))]∧hs=[svB p.s,svB t]):=by
 refine fn_of_body tds_ok follows_ Try.func32 rfl (t:=.a (.agg (pmC 0 p))::anys (Try.f32.ntmps-1)) rfl (fun w r0 hr _=>?_)
 obtain ⟨x0,rfl⟩:=List.length_eq_one_iff.1 hr
 (repeat show _∧_;first|refine yr ?_|refine yt ?_|refine yf ?_|refine yo ?_)
 refine call_same (fn_pmcheck p) [0] rfl (by (repeat first|exact trivial|refine ent1 ?_)) (by refine eqC_bts ?_; (repeat first|exact trivial|refine ent1 ?_)) (fun _ _=>trivial) ?_
 rintro x hs' ⟨rfl,rfl⟩
 by_cases hc:checkP p=0
 rotate_left
 ·have k0:decide (checkP p≠0)=true:=decide_eq_true hc
  (repeat show _∧_;first|refine yr ?_|refine yt ?_|refine yf ?_|refine ya k0 ?_|refine yb k0 ?_|refine yo ?_)
  (repeat first|refine And.intro (by omega) ?_|refine And.intro (by decide) ?_|(with_reducible refine frc_parts (by first|omega|decide) ?_)|(with_reducible refine frc_bytesL (by first|omega|decide) ?_)|refine And.intro rfl ?_)
  refine ⟨.tup [.c (svC 1 ⟨true,0,0,0,[]⟩),.c (.int .i64 (checkP p))],_,⟨[0,1],⟨rfl,rfl,rfl⟩,?_⟩,⟨true,0,0,0,[]⟩,nil_ok,fun h=>absurd h hc,rfl,rfl⟩
  (repeat first|exact trivial|refine ent1 ?_)
  refine eqC_bts ?_
  (repeat first|exact trivial|refine ent1 ?_)
 have hb:=check_ok hc
 have l0:lenN p.a0≠0:=small_len (by have:=hb.1; show p.a0.toNat≤1073741824; omega)
 have l1:lenN p.a1≠0:=small_len (by have:=hb.2.1.1; show p.a1.toNat≤1073741824; omega)
 have l2:lenN p.a2≠0:=small_len (by have:=hb.2.1.2.1; show p.a2.toNat≤1073741824; omega)
 have l3:lenN p.a3≠0:=small_len (by have:=hb.2.1.2.2.1; show p.a3.toNat≤1073741824; omega)
 have l4:lenN p.a4≠0:=small_len (by have:=hb.2.1.2.2.2; show p.a4.toNat≤1073741824; omega)
 have l5:lenN p.a5≠0:=small_len (by have:=hb.2.2.1.1; show p.a5.toNat≤1073741824; omega)
 have l6:lenN p.a6≠0:=small_len (by have:=hb.2.2.1.2; show p.a6.toNat≤1073741824; omega)
 have l7:lenN p.a7≠0:=small_len (by have:=hb.2.2.2.1; show p.a7.toNat≤1073741824; omega)
 have l8:lenN p.a8≠0:=small_len (by have:=hb.2.2.2.2.1.2; show p.a8.toNat≤1073741824; omega)
 have hs20:=hb.2.2.2.2.2
 clear hb
 have k0:decide (checkP p≠0)=false:=decide_eq_false (by omega)
 (repeat show _∧_;first|refine yr ?_|refine yt ?_|refine yf ?_|refine ya k0 ?_|refine yb k0 ?_|refine yo ?_)
 (repeat show _∧_;first|refine yr ?_|refine yt ?_|refine yf ?_|refine yo ?_)
 refine call_same (fn_number0 1#64 p.a0 (by decide) l0) [2] rfl (by (repeat first|exact trivial|refine ent1 ?_)) (by (repeat first|exact trivial|refine ent1 ?_)) (fun _ _=>trivial) ?_
 rintro x hs' ⟨B0,c0,hB0,hc0,rfl,rfl⟩
 have q0:B0.length≤24:=by rw [hB0]; exact numL_len _ _
 (repeat show _∧_;first|refine yr ?_|refine yt ?_|refine yf ?_|refine yo ?_)
 refine call_same (fn_number 4#64 p.a1 B0 c0 (by decide) l1 (Nat.le_trans q0 (by decide)) hc0) [2,3] rfl (by (repeat first|exact trivial|refine ent1 ?_)) (by (repeat first|exact trivial|refine ent1 ?_)) (fun _ _=>trivial) ?_
 rintro x hs' ⟨B1,c1,hB1,hc1,rfl,rfl⟩
 have q1:B1.length≤48:=by rw [hB1]; exact app_len q0 (numL_len _ _)
 (repeat show _∧_;first|refine yr ?_|refine yt ?_|refine yf ?_|refine yo ?_)
 refine call_same (fn_number 5#64 p.a2 B1 c1 (by decide) l2 (Nat.le_trans q1 (by decide)) hc1) [2,4] rfl (by (repeat first|exact trivial|refine ent1 ?_)) (by (repeat first|exact trivial|refine ent1 ?_)) (fun _ _=>trivial) ?_
 rintro x hs' ⟨B2,c2,hB2,hc2,rfl,rfl⟩
 have q2:B2.length≤72:=by rw [hB2]; exact app_len q1 (numL_len _ _)
 (repeat show _∧_;first|refine yr ?_|refine yt ?_|refine yf ?_|refine yo ?_)
 refine call_same (fn_number 6#64 p.a3 B2 c2 (by decide) l3 (Nat.le_trans q2 (by decide)) hc2) [2,5] rfl (by (repeat first|exact trivial|refine ent1 ?_)) (by (repeat first|exact trivial|refine ent1 ?_)) (fun _ _=>trivial) ?_
 rintro x hs' ⟨B3,c3,hB3,hc3,rfl,rfl⟩
 have q3:B3.length≤96:=by rw [hB3]; exact app_len q2 (numL_len _ _)
 (repeat show _∧_;first|refine yr ?_|refine yt ?_|refine yf ?_|refine yo ?_)
 refine call_same (fn_number 7#64 p.a4 B3 c3 (by decide) l4 (Nat.le_trans q3 (by decide)) hc3) [2,6] rfl (by (repeat first|exact trivial|refine ent1 ?_)) (by (repeat first|exact trivial|refine ent1 ?_)) (fun _ _=>trivial) ?_
 rintro x hs' ⟨B4,c4,hB4,hc4,rfl,rfl⟩
 have q4:B4.length≤120:=by rw [hB4]; exact app_len q3 (numL_len _ _)
 (repeat show _∧_;first|refine yr ?_|refine yt ?_|refine yf ?_|refine yo ?_)
 refine call_same (fn_number 8#64 p.a5 B4 c4 (by decide) l5 (Nat.le_trans q4 (by decide)) hc4) [2,7] rfl (by (repeat first|exact trivial|refine ent1 ?_)) (by (repeat first|exact trivial|refine ent1 ?_)) (fun _ _=>trivial) ?_
 rintro x hs' ⟨B5,c5,hB5,hc5,rfl,rfl⟩
 have q5:B5.length≤144:=by rw [hB5]; exact app_len q4 (numL_len _ _)
 (repeat show _∧_;first|refine yr ?_|refine yt ?_|refine yf ?_|refine yo ?_)
 refine call_same (fn_number 9#64 p.a6 B5 c5 (by decide) l6 (Nat.le_trans q5 (by decide)) hc5) [2,8] rfl (by (repeat first|exact trivial|refine ent1 ?_)) (by (repeat first|exact trivial|refine ent1 ?_)) (fun _ _=>trivial) ?_
 rintro x hs' ⟨B6,c6,hB6,hc6,rfl,rfl⟩
 have q6:B6.length≤168:=by rw [hB6]; exact app_len q5 (numL_len _ _)
 (repeat show _∧_;first|refine yr ?_|refine yt ?_|refine yf ?_|refine yo ?_)
 refine call_same (fn_number 11#64 p.a7 B6 c6 (by decide) l7 (Nat.le_trans q6 (by decide)) hc6) [2,9] rfl (by (repeat first|exact trivial|refine ent1 ?_)) (by (repeat first|exact trivial|refine ent1 ?_)) (fun _ _=>trivial) ?_
 rintro x hs' ⟨B7,c7,hB7,hc7,rfl,rfl⟩
 have q7:B7.length≤192:=by rw [hB7]; exact app_len q6 (numL_len _ _)
 (repeat show _∧_;first|refine yr ?_|refine yt ?_|refine yf ?_|refine yo ?_)
 refine call_same (fn_number 14#64 p.a8 B7 c7 (by decide) l8 (Nat.le_trans q7 (by decide)) hc7) [2,10] rfl (by (repeat first|exact trivial|refine ent1 ?_)) (by (repeat first|exact trivial|refine ent1 ?_)) (fun _ _=>trivial) ?_
 rintro x hs' ⟨B8,c8,hB8,hc8,rfl,rfl⟩
 have q8:B8.length≤216:=by rw [hB8]; exact app_len q7 (numL_len _ _)
 (repeat show _∧_;first|refine yr ?_|refine yt ?_|refine yf ?_|refine yo ?_)
 refine call_same (fn_wint [15#64] 1 1 B8 c8 (by intro x hx; simp at hx; subst hx; decide) (Nat.le_refl _) (by simp) (Nat.le_trans q8 (by decide)) hc8) [12,2,11] rfl (by (repeat first|exact trivial|refine ent1 ?_)) ?_ (fun _ _=>trivial) ?_
 ·(repeat first|exact trivial|refine ent1 ?_)
  refine ⟨fun j hj=>eqC_nums (nums1 _) j,?_⟩
  (repeat first|exact trivial|refine ent1 ?_)
 rintro x hs' ⟨-,hk⟩
 obtain ⟨c9,hc9,rfl,rfl⟩:=hk (by simp)
 have q9:(B8++putAll [15#64]).length≤216+8:=app_len q8 (one_len 15#64)
 have z9:0<(B8++putAll [15#64]).length:=by rw [List.length_append,one_15]; omega
 generalize hB9:B8++putAll [15#64]=B9 at hc9 q9 z9 ⊢
 (repeat show _∧_;first|refine yr ?_|refine yt ?_|refine yf ?_|refine yo ?_)
 refine call_same (fn_wlong p.s hp B9 c9 (Nat.le_trans q9 (by decide)) hc9) [0,2,13] rfl (by (repeat first|exact trivial|refine ent1 ?_)) ?_ (fun _ _=>trivial) ?_
 ·refine eqC_bts ?_
  (repeat first|exact trivial|refine ent1 ?_)
 rintro x hs' ⟨c10,hc10,rfl,rfl⟩
 have q10:(B9++longL p.s.l).length≤216+8+(8+p.s.l.length):=app_len q9 (longL_len p.s.l)
 have z10:0<(B9++longL p.s.l).length:=by rw [List.length_append]; omega
 generalize hB10:B9++longL p.s.l=B10 at hc10 q10 z10 ⊢
 (repeat show _∧_;first|refine yr ?_|refine yt ?_|refine yf ?_|refine yo ?_)
 have hP:putP p=B10:=by rw [← hB10,← hB9,hB8,hB7,hB6,hB5,hB4,hB3,hB2,hB1,hB0]; rfl
 refine call_same (fn_wdone B10 c10 (by omega) hc10 z10) [2,14] rfl (by (repeat first|exact trivial|refine ent1 ?_)) (by (repeat first|exact trivial|refine ent1 ?_)) (fun _ _=>trivial) ?_
 rintro x hs' ⟨c11,hc11,rfl,rfl⟩
 (repeat show _∧_;first|refine yr ?_|refine yt ?_|refine yf ?_|refine yo ?_)
 rw [hc,hP]
 refine ⟨.tup [.c (svC 1 ⟨false,c11,0,c11,B10⟩),.c (.int .i64 0)],_,⟨[0,15],⟨rfl,rfl,rfl⟩,?_⟩,⟨false,c11,0,c11,B10⟩,own_ok hc11 (by omega),fun _=>rfl,rfl,rfl⟩
 (repeat first|exact trivial|refine ent1 ?_)
 refine eqC_bts ?_
 (repeat first|exact trivial|refine ent1 ?_)
 refine ⟨fun j hj=>eqC_winBM (Nat.le_refl _),?_⟩
 (repeat first|exact trivial|refine ent1 ?_)
end Sx
end
section
namespace Vi
open Sha Sx

theorem nx_put {n:BitVec 64} (h0:lenN n≠0) (r:Bs):nextM (putL n++r) 0=((n,lenN n,true),r,0):=by
 obtain ⟨a,b⟩:=take_wide (lenN_ok h0) h0 (Nat.le_refl _) r
 have ht:takeM (wideL n (lenN n)++r)=(n,lenN n,0):=by
  unfold takeM
  rw [if_neg,a,b]
  simp only [List.length_append,wideL_len,a]
  omega
 unfold putL nextM
 rw [if_neg (by decide),ht]
 simp
theorem lg_put {v:Bs} {m:Nat} (hv:v.length≤m) (hm:m≤1000000) (r:Bs):longM (longL v++r) 0 m=(v,r,0):=by
 have h1:(BitVec.ofNat 64 v.length).toNat=v.length:=by rw [BitVec.toNat_ofNat]; omega
 have h2:lenN (BitVec.ofNat 64 v.length)≠0:=by
  have:=lenN_spec (BitVec.ofNat 64 v.length)
  omega
 unfold longM countM longL
 rw [List.append_assoc,nx_put h2]
 simp only [h1]
 rw [if_neg (by decide),if_neg (by omega)]
 unfold bytesM
 rw [if_neg (fun h=>h rfl),if_neg (by rw [List.length_append]; omega)]
 simp
theorem numL_eq (id n:BitVec 64):numL id n=putL id++longL (putL n):=by
 unfold numL longL
 simp only [putAll,List.append_nil,putL_len,BitVec.ofInt_natCast]
theorem putK_new {k v:BitVec 64}:∀ {D:Said},hasK k D=false→putK k v D=D++[(k,v)]
 | [],_=>rfl
 | x::D,h=>by
  simp only [hasK,Bool.or_eq_false_iff,decide_eq_false_iff_not] at h
  simp only [putK]
  rw [if_neg h.1,putK_new h.2]; rfl
theorem putK_two {k u v:BitVec 64}:∀ {D:Said},putK k v (putK k u D)=putK k v D
 | []=>by simp [putK]
 | x::D=>by
  simp only [putK]
  split
  ·simp [putK]
  ·rename_i h
   simp only [putK]
   rw [if_neg h,putK_two]
theorem own_num {id n:BitVec 64} {D:Said} (h:numId id=true) (h0:lenN n≠0):ownM id (putL n) D=(0,putK id n (putK id 0#64 D)):=by
 unfold ownM
 rw [h]
 have:=nx_put h0 []
 rw [List.append_nil] at this
 simp only [this]
 rfl
theorem one_num {id n:BitVec 64} {D:Said} {m:Nat} {src:Bs} (hi:lenN id≠0) (hid:numId id=true) (h15:id≠15#64) (hn:lenN n≠0) (hm:8≤m) (hm2:m≤1000000) (hk:hasK id D=false) (r:Bs) :
  oneP m (numL id n++r) D src=(0,r,D++[(id,n)],src):=by
 have hl:(putL n).length≤m:=by have:=lenN_le n; rw [putL_len]; omega
 rw [numL_eq,List.append_assoc,oneP_ok (nx_put hi _) (lg_put hl hm2 r) rfl hk (own_num hid hn),if_neg h15,putK_two,putK_new hk]
theorem numL_pos {id n:BitVec 64} (h:lenN n≠0):1≤(numL id n).length:=by
 rw [numL_eq]
 unfold longL
 simp only [List.length_append,putL_len]
 omega
theorem all_num {id n:BitVec 64} {D:Said} {m f:Nat} {src:Bs} (hi:lenN id≠0) (hid:numId id=true) (h15:id≠15#64) (hn:lenN n≠0) (hm:8≤m) (hm2:m≤1000000) (hk:hasK id D=false) (r:Bs) :
  allP m (f+1) (numL id n++r) D src=allP m f r (D++[(id,n)]) src:=by
 have:=numL_pos (id:=id) hn
 exact allP_step (by rw [List.length_append]; omega) (one_num hi hid h15 hn hm hm2 hk r)
theorem one_src {D:Said} {m:Nat} {src v:Bs} (hv:v.length≤m) (hm2:m≤1000000) (hk:hasK 15#64 D=false) (r:Bs) :
  oneP m (putAll [15#64]++longL v++r) D src=(0,r,D++[(15#64,0#64)],v):=by
 have ho:ownM 15#64 v D=(0,putK 15#64 0#64 D):=rfl
 have e:putAll [15#64]=putL 15#64:=by simp [putAll]
 rw [e,List.append_assoc,oneP_ok (nx_put (by decide) _) (lg_put hv hm2 r) rfl hk ho,if_pos rfl,putK_new hk]
def sameP (p q:Pm):Prop:=p.a0=q.a0∧p.a1=q.a1∧p.a2=q.a2∧p.a3=q.a3∧p.a4=q.a4∧p.a5=q.a5∧p.a6=q.a6∧p.a7=q.a7∧p.a8=q.a8∧p.s.l=q.s.l
theorem sameP.check {p q:Pm} (h:sameP p q):checkP p=checkP q:=by
 obtain ⟨h0,h1,h2,h3,h4,h5,h6,h7,h8,h9⟩:=h
 unfold checkP
 rw [h0,h1,h2,h3,h4,h5,h6,h7,h8,h9]
theorem all_put {p:Pm} (hc:checkP p=0):allP (putP p).length (putP p).length (putP p) [] [] =
  (0,[(1#64,p.a0),(4#64,p.a1),(5#64,p.a2),(6#64,p.a3),(7#64,p.a4),(8#64,p.a5),(9#64,p.a6),(11#64,p.a7),(14#64,p.a8),(15#64,0#64)],p.s.l):=by
 have hb:=check_ok hc
 have l0:lenN p.a0≠0:=small_len (by have:=hb.1; show p.a0.toNat≤1073741824; omega)
 have l1:lenN p.a1≠0:=small_len (by have:=hb.2.1.1; show p.a1.toNat≤1073741824; omega)
 have l2:lenN p.a2≠0:=small_len (by have:=hb.2.1.2.1; show p.a2.toNat≤1073741824; omega)
 have l3:lenN p.a3≠0:=small_len (by have:=hb.2.1.2.2.1; show p.a3.toNat≤1073741824; omega)
 have l4:lenN p.a4≠0:=small_len (by have:=hb.2.1.2.2.2; show p.a4.toNat≤1073741824; omega)
 have l5:lenN p.a5≠0:=small_len (by have:=hb.2.2.1.1; show p.a5.toNat≤1073741824; omega)
 have l6:lenN p.a6≠0:=small_len (by have:=hb.2.2.1.2; show p.a6.toNat≤1073741824; omega)
 have l7:lenN p.a7≠0:=small_len (by have:=hb.2.2.2.1; show p.a7.toNat≤1073741824; omega)
 have l8:lenN p.a8≠0:=small_len (by have:=hb.2.2.2.2.1.2; show p.a8.toNat≤1073741824; omega)
 have q0:=numL_pos (id:=1#64) l0
 have q1:=numL_pos (id:=4#64) l1
 have q2:=numL_pos (id:=5#64) l2
 have q3:=numL_pos (id:=6#64) l3
 have q4:=numL_pos (id:=7#64) l4
 have q5:=numL_pos (id:=8#64) l5
 have q6:=numL_pos (id:=9#64) l6
 have q7:=numL_pos (id:=11#64) l7
 have q8:=numL_pos (id:=14#64) l8
 have u0:=numL_len 1#64 p.a0
 have u1:=numL_len 4#64 p.a1
 have u2:=numL_len 5#64 p.a2
 have u3:=numL_len 6#64 p.a3
 have u4:=numL_len 7#64 p.a4
 have u5:=numL_len 8#64 p.a5
 have u6:=numL_len 9#64 p.a6
 have u7:=numL_len 11#64 p.a7
 have u8:=numL_len 14#64 p.a8
 have u9:=longL_len p.s.l
 have u10:p.s.l.length≤(longL p.s.l).length:=by unfold longL; simp
 have hlen:(putP p).length=(numL 1#64 p.a0).length+(numL 4#64 p.a1).length+(numL 5#64 p.a2).length+(numL 6#64 p.a3).length+(numL 7#64 p.a4).length+(numL 8#64 p.a5).length+(numL 9#64 p.a6).length+(numL 11#64 p.a7).length+(numL 14#64 p.a8).length+1+(longL p.s.l).length:=by
  unfold putP
  simp only [List.length_append,one_15]
 generalize hm:(putP p).length=m at hlen
 obtain ⟨f,hf⟩:∃ f,m=f+10:=⟨m-10,by omega⟩
 have hm8:8≤m:=by omega
 have hm2:m≤1000000:=by omega
 have e:putP p=numL 1#64 p.a0++(numL 4#64 p.a1++(numL 5#64 p.a2++(numL 6#64 p.a3++(numL 7#64 p.a4++(numL 8#64 p.a5++(numL 9#64 p.a6++(numL 11#64 p.a7++(numL 14#64 p.a8++(putAll [15#64]++longL p.s.l++[]))))))))):=by
  unfold putP
  simp only [List.append_assoc,List.append_nil]
 rw [e,show allP m m=allP m (f+10) by rw [← hf],
  all_num (by decide) rfl (by decide) l0 hm8 hm2 rfl,all_num (by decide) rfl (by decide) l1 hm8 hm2 rfl,all_num (by decide) rfl (by decide) l2 hm8 hm2 rfl,
  all_num (by decide) rfl (by decide) l3 hm8 hm2 rfl,all_num (by decide) rfl (by decide) l4 hm8 hm2 rfl,all_num (by decide) rfl (by decide) l5 hm8 hm2 rfl,
  all_num (by decide) rfl (by decide) l6 hm8 hm2 rfl,all_num (by decide) rfl (by decide) l7 hm8 hm2 rfl,all_num (by decide) rfl (by decide) l8 hm8 hm2 rfl,
  allP_step (by simp only [List.length_append,one_15]; omega) (one_src (by omega) hm2 rfl []),allP_end]
 rfl
theorem take_put {p q:Pm} {e:Int} (hc:checkP p=0) (h:takeP (putP p) e q):e=0∧sameP q p:=by
 unfold takeP at h
 rw [all_put hc] at h
 obtain ⟨-,h⟩:=h
 obtain ⟨-,h⟩:=h rfl
 obtain ⟨q',-,hi,h1,h2⟩:=h rfl
 have hs:sameP q' p:=by
  obtain ⟨h0,h1,h2,h3,h4,h5,h6,h7,h8,h9⟩:=hi
  exact ⟨h0,h1,h2,h3,h4,h5,h6,h7,h8,h9⟩
 obtain ⟨rfl,rfl⟩:=h2 (by rw [hs.check]; exact hc)
 exact ⟨rfl,hs⟩
end Vi
end
section
namespace Vi
open Sha
theorem shr_div (n:BitVec 64) (j:Nat):(n >>> (8*j)) / 256#64=n >>> (8*(j+1)):=by
 apply BitVec.eq_of_toNat_eq
 rw [BitVec.toNat_udiv,BitVec.toNat_ushiftRight,BitVec.toNat_ushiftRight,Nat.shiftRight_eq_div_pow,Nat.shiftRight_eq_div_pow,Nat.mul_add,Nat.pow_add,← Nat.div_div_eq_div_mul]
 rfl
theorem shr_mod (n:BitVec 64) (j:Nat):((n >>> (8*j)) % 256#64).setWidth 8=byteN n j:=by
 apply BitVec.eq_of_toNat_eq
 rw [byteN_toNat,BitVec.toNat_setWidth,BitVec.toNat_umod,BitVec.toNat_ushiftRight,Nat.shiftRight_eq_div_pow,Nat.pow_mul]
 show n.toNat / 256 ^ j % 256 % 256=_
 omega
end Vi
namespace Sx
open Sha Vi

theorem fn_qlen (n:BitVec 64):Fn Try.prog tds 39 [] [.c (.w64 n)] (fun _=>True) (fun x hs=>x=.a (.c (.int .i64 (lenN n:Nat)))∧hs=[]):=by
 refine fn_of_body tds_ok follows_ Try.func39 rfl (t:=.a (.c (.w64 n))::anys (Try.f39.ntmps-1)) rfl (fun w r0 hr _=>?_)
 obtain rfl:r0=[]:=List.eq_nil_of_length_eq_zero hr
 have hs:=lenN_spec n
 refine ⟨fun h=>?_,fun h0=>?_⟩
 ·have h:4611686018427387903#64<n:=of_decide_eq_true h
  rw [BitVec.lt_def] at h
  have e:lenN n=0:=by simp at h; omega
  rw [e]
  exact ⟨.a (.c (.int .i64 0)),[],⟨[],⟨rfl,rfl,rfl⟩,rfl,trivial⟩,rfl,rfl⟩
 have h0:¬ 4611686018427387903#64<n:=of_decide_eq_false h0
 rw [BitVec.lt_def] at h0
 simp at h0
 refine ⟨fun h=>?_,fun h1=>?_⟩
 ·have h:n<64#64:=of_decide_eq_true h
  rw [BitVec.lt_def] at h
  have e:lenN n=1:=by simp at h; omega
  rw [e]
  exact ⟨.a (.c (.int .i64 1)),[],⟨[],⟨rfl,rfl,rfl⟩,rfl,trivial⟩,rfl,rfl⟩
 have h1:¬ n<64#64:=of_decide_eq_false h1
 rw [BitVec.lt_def] at h1
 simp at h1
 refine ⟨fun h=>?_,fun h2=>?_⟩
 ·have h:n<16384#64:=of_decide_eq_true h
  rw [BitVec.lt_def] at h
  have e:lenN n=2:=by simp at h; omega
  rw [e]
  exact ⟨.a (.c (.int .i64 2)),[],⟨[],⟨rfl,rfl,rfl⟩,rfl,trivial⟩,rfl,rfl⟩
 have h2:¬ n<16384#64:=of_decide_eq_false h2
 rw [BitVec.lt_def] at h2
 simp at h2
 refine ⟨fun h=>?_,fun h3=>?_⟩
 ·have h:n<1073741824#64:=of_decide_eq_true h
  rw [BitVec.lt_def] at h
  have e:lenN n=4:=by simp at h; omega
  rw [e]
  exact ⟨.a (.c (.int .i64 4)),[],⟨[],⟨rfl,rfl,rfl⟩,rfl,trivial⟩,rfl,rfl⟩
 have h3:¬ n<1073741824#64:=of_decide_eq_false h3
 rw [BitVec.lt_def] at h3
 simp at h3
 have e:lenN n=8:=by omega
 rw [e]
 exact ⟨.a (.c (.int .i64 8)),[],⟨[],⟨rfl,rfl,rfl⟩,rfl,trivial⟩,rfl,rfl⟩
theorem fn_qtop (k:Nat) (hk:okSz k):Fn Try.prog tds 57 [] [.c (.int .i64 (k:Nat))] (fun _=>True) (fun x hs=>x=.a (.c (.int .i64 ((markB k).toNat:Nat)))∧hs=[]):=by
 refine fn_of_body tds_ok follows_ Try.func57 rfl (t:=.a (.c (.int .i64 (k:Nat)))::anys (Try.f57.ntmps-1)) rfl (fun w r0 hr _=>?_)
 obtain rfl:r0=[]:=List.eq_nil_of_length_eq_zero hr
 rcases hk with rfl|rfl|rfl|rfl
 ·refine ⟨fun h=>?_,fun h=>absurd h (by decide)⟩
  exact ⟨.a (.c (.int .i64 0)),[],⟨[],⟨rfl,rfl,rfl⟩,rfl,trivial⟩,rfl,rfl⟩
 ·refine ⟨fun h=>absurd h (by decide),fun _=>⟨fun h=>?_,fun h=>absurd h (by decide)⟩⟩
  exact ⟨.a (.c (.int .i64 64)),[],⟨[],⟨rfl,rfl,rfl⟩,rfl,trivial⟩,rfl,rfl⟩
 ·refine ⟨fun h=>absurd h (by decide),fun _=>⟨fun h=>absurd h (by decide),fun _=>⟨fun h=>?_,fun h=>absurd h (by decide)⟩⟩⟩
  exact ⟨.a (.c (.int .i64 128)),[],⟨[],⟨rfl,rfl,rfl⟩,rfl,trivial⟩,rfl,rfl⟩
 ·refine ⟨fun h=>absurd h (by decide),fun _=>⟨fun h=>absurd h (by decide),fun _=>⟨fun h=>absurd h (by decide),fun _=>⟨fun h=>?_,fun h=>absurd h (by decide)⟩⟩⟩⟩
  exact ⟨.a (.c (.int .i64 192)),[],⟨[],⟨rfl,rfl,rfl⟩,rfl,trivial⟩,rfl,rfl⟩
theorem mark_add' {n:BitVec 64} {k:Nat} (hk:okSz k) (h0:lenN n≠0) (h1:lenN n≤k):byteN n (k-1)+markB k=byteN n (k-1) ||| markB k:=by
 have:=mark_add _ (head_lt hk h0 h1).1
 rcases hk with rfl|rfl|rfl|rfl
 ·exact this.1.symm
 ·exact this.2.1.symm
 ·exact this.2.2.1.symm
 ·exact this.2.2.2.symm
set_option maxRecDepth 20000 in
theorem fn_qwide (n:BitVec 64) (k:Nat) (hk:okSz k) (h0:lenN n≠0) (h1:lenN n≤k):Fn Try.prog tds 38 [] [.c (.w64 n),.c (.int .i64 (k:Nat))] (fun _=>True)
  (fun y hs=>∃ c',k≤c'∧y=.a (.c (.sl 0 0 0 (wideL n k).length c'))∧hs=[lsC (wideL n k) c']):=by
 refine fn_of_body tds_ok follows_ Try.func38 rfl (t:=[.a (.c (.w64 (n))),.a (.c (.int .i64 ((k:Nat)))),.any,.any,.any,.any,.any,.any,.any,.any,.any,.any,.any,.any,.any,.any,.any,.any,.any,.any,.any,.any,.any,.any,.any,.any,.any,.any,.any,.any,.any,.any,.any,.any,.any,.any,.any,.any,.any,.any,.any,.any,.any,.any,.any]) rfl (fun w r0 hr _=>?_)
 obtain rfl:r0=[]:=List.eq_nil_of_length_eq_zero hr
 have hk8:1≤k∧k≤8:=by rcases hk with rfl|rfl|rfl|rfl <;> omega
 (repeat first|refine And.intro (by omega) ?_|refine And.intro (by decide) ?_|(with_reducible refine frc_parts (by first|omega|decide) ?_)|(with_reducible refine frc_bytesL (by first|omega|decide) ?_)|refine And.intro rfl ?_)
 refine call_same (fn_qlen n) [] rfl (by (repeat first|exact trivial|refine ent1 ?_)) trivial (fun _ _=>trivial) ?_
 rintro x hs ⟨rfl,rfl⟩
 have e1:decide ((lenN n:Int)=0)=false:=decide_eq_false (by omega)
 (repeat first|refine And.intro (by omega) ?_|refine And.intro (by decide) ?_|refine And.intro rfl ?_|refine And.intro (fun _=>?_) (fun h=>Bool.noConfusion h)|refine And.intro (fun h=>Bool.noConfusion h) (fun _=>?_)|refine And.intro (fun _=>?_) (fun h=>absurd h (by rw [e1]; decide))|refine And.intro (fun h=>absurd h (by rw [e1]; decide)) (fun _=>?_))
 refine call_same (fn_qlen n) [] rfl (by (repeat first|exact trivial|refine ent1 ?_)) trivial (fun _ _=>trivial) ?_
 rintro x hs ⟨rfl,rfl⟩
 have e2:decide ((k:Int)<(lenN n:Int))=false:=decide_eq_false (by omega)
 (repeat first|refine And.intro (by omega) ?_|refine And.intro (by decide) ?_|refine And.intro rfl ?_|refine And.intro (fun _=>?_) (fun h=>Bool.noConfusion h)|refine And.intro (fun h=>Bool.noConfusion h) (fun _=>?_)|refine And.intro (fun _=>?_) (fun h=>absurd h (by rw [e1]; decide))|refine And.intro (fun h=>absurd h (by rw [e1]; decide)) (fun _=>?_)|refine And.intro (fun _=>?_) (fun h=>absurd h (by rw [e2]; decide))|refine And.intro (fun h=>absurd h (by rw [e2]; decide)) (fun _=>?_))
 refine call_same (fn_qtop k hk) [] rfl (by (repeat first|exact trivial|refine ent1 ?_)) trivial (fun _ _=>trivial) ?_
 rintro x hs ⟨rfl,rfl⟩
 have e3:decide (((markB k).toNat:Int)<0)=false:=decide_eq_false (by omega)
 (repeat first|refine And.intro (by omega) ?_|refine And.intro (by decide) ?_|refine And.intro rfl ?_|refine And.intro (fun _=>?_) (fun h=>Bool.noConfusion h)|refine And.intro (fun h=>Bool.noConfusion h) (fun _=>?_)|refine And.intro (fun _=>?_) (fun h=>absurd h (by rw [e1]; decide))|refine And.intro (fun h=>absurd h (by rw [e1]; decide)) (fun _=>?_)|refine And.intro (fun _=>?_) (fun h=>absurd h (by rw [e2]; decide))|refine And.intro (fun h=>absurd h (by rw [e2]; decide)) (fun _=>?_)|refine And.intro (fun _=>?_) (fun h=>absurd h (by rw [e3]; decide))|refine And.intro (fun h=>absurd h (by rw [e3]; decide)) (fun _=>?_))
 refine .inl ⟨Nat,fun j=>⟨[.a (.c (.w64 (n >>> (8*j)))),.a (.c (.int .i64 ((k:Nat)))),.any,.any,.any,.a (.c (.p 0 0 0)),.a (.c (.int .i64 ((k:Int)-1-(j:Int)))),.any,.any,.any,.any,.any,.any,.any,.any,.any,.any,.any,.any,.any,.any,.any,.any,.any,.any,.any,.any,.any,.any,.any,.any,.any,.any,.any,.any,.any,.any,.any,.any,.any,.any,.any,.any,.any,.any],[[.row 8 fun i=>.w8 (if k≤i+j∧i<k then byteN n (k-1-i) else 0#8)]]⟩,fun j=>j≤k,fun j=>9-j,⟨0,[0],⟨⟨rfl,rfl,rfl⟩,?_⟩,by omega⟩,fun j hj=>?_⟩
 ·(repeat first|exact trivial|refine ent1 ?_)
  refine ⟨fun i hi=>⟨(if_neg (by omega)).symm,trivial⟩,?_⟩
  (repeat first|exact trivial|refine ent1 ?_)
 refine ⟨fun h=>?_,fun h=>?_⟩
 ·have hlt:j<k:=by have:(0:Int)≤(k:Int)-1-j:=of_decide_eq_true h; omega
  (repeat first|refine And.intro (by omega) ?_|refine And.intro (by decide) ?_|(with_reducible refine frc_parts (by first|omega|decide) ?_)|(with_reducible refine frc_bytesL (by first|omega|decide) ?_)|refine And.intro rfl ?_)
  refine ⟨j+1,[0],⟨⟨rfl,rfl,rfl⟩,?_⟩,by omega,by dsimp only; omega⟩
  refine ⟨shr_div n j,?_⟩
  (repeat first|exact trivial|refine ent1 ?_)
  refine ⟨fun i hi=>eqC_w8 ?_,?_⟩
  ·have ei:((k:Int)-1-(j:Int)).toNat+0=k-1-j:=by omega
   rw [ei]
   refine upd_w8 (g:=fun i=>.w8 (if k≤i+(j+1)∧i<k then byteN n (k-1-i) else 0#8)) ?_ (fun q hq=>?_) i
   ·show SC.w8 _=SC.w8 _
    rw [if_pos (by omega),shr_mod,show k-1-(k-1-j)=j by omega]
   ·show SC.w8 _=SC.w8 _
    have:(k≤q+j∧q<k) ↔ (k≤q+(j+1)∧q<k):=by omega
    simp only [this]
  (repeat first|exact trivial|refine ent1 ?_)
 ·obtain rfl:j=k:=by have:¬ (0:Int)≤(k:Int)-1-j:=of_decide_eq_false h; have hj:j≤k:=hj; omega
  refine ⟨none,[],[(0,true),(1,true),(2,true),(3,false),(4,true),(5,true),(6,true)],[7],by kernel_rfl,?_⟩
  (repeat first|refine And.intro (by omega) ?_|refine And.intro (by decide) ?_|(with_reducible refine frc_parts (by first|omega|decide) ?_)|(with_reducible refine frc_bytesL (by first|omega|decide) ?_)|refine And.intro rfl ?_)
  refine call_same (fn_qtop j hk) [] rfl (by (repeat first|exact trivial|refine ent1 ?_)) trivial (fun _ _=>trivial) ?_
  rintro x hs ⟨rfl,rfl⟩
  (repeat first|refine And.intro (by omega) ?_|refine And.intro (by decide) ?_|(with_reducible refine frc_parts (by first|omega|decide) ?_)|(with_reducible refine frc_bytesL (by first|omega|decide) ?_)|refine And.intro rfl ?_)
  refine frcN_of (m:=0) rfl ?_
  refine frcN_of (m:=j) rfl ?_
  refine frcN_of (m:=0) rfl ?_
  refine frcN_of (m:=j) rfl ?_
  refine frcN_of (m:=8) rfl ?_
  refine ⟨by show 0+j≤8; omega,?_⟩
  refine ⟨⟨Nat.le_refl _,Nat.le_refl _,by show (0+j)*1≤140737488355328; omega⟩,fun c' hc'=>?_⟩
  refine ⟨.a (.c (.sl 0 0 0 (wideL n j).length c')),_,⟨[2],⟨rfl,rfl,rfl⟩,?_⟩,c',by omega,rfl,rfl⟩
  refine ⟨rfl,by simp,rfl,?_⟩
  refine ⟨rfl,fun i hi=>eqC_bytes (fun i hi=>?_) i,trivial⟩
  have hi:i<j:=by simpa using hi
  refine app_row (l:=[]) (m:=wideL n j) (f:=nthC []) rfl (wideL_len _ _) (fun i hi=>absurd hi (by simp)) (fun i hi=>?_) i (by simpa using hi)
  have ht:BitVec.ofInt 8 ((markB j).toNat:Int)=markB j:=by rw [BitVec.ofInt_natCast,BitVec.ofNat_toNat,BitVec.setWidth_eq]
  show upd _ 0 _ (i+0)=_
  rw [L_wide hi]
  unfold upd
  by_cases hz:i=0
  ·rw [if_pos (show i+0=0 from hz),if_pos hz]
   show SC.w8 ((if j≤0+j∧0<j then byteN n (j-1-0) else 0#8)+BitVec.ofInt 8 ((markB j).toNat:Int))=_
   rw [ht,if_pos (by omega),Nat.sub_zero,mark_add' hk h0 h1]
  ·rw [if_neg (show ¬ i+0=0 from hz),if_neg hz]
   show SC.w8 (if j≤i+j∧i<j then byteN n (j-1-i) else 0#8)=_
   rw [if_pos (by omega)]
set_option maxRecDepth 20000 in
theorem fn_qput (n:BitVec 64) (h0:lenN n≠0):Fn Try.prog tds 23 [] [.c (.w64 n)] (fun _=>True)
  (fun y hs=>∃ c',lenN n≤c'∧y=.a (.c (.sl 0 0 0 (putL n).length c'))∧hs=[lsC (putL n) c']):=by
 refine fn_of_body tds_ok follows_ Try.func23 rfl (t:=.a (.c (.w64 n))::anys (Try.f23.ntmps-1)) rfl (fun w r0 hr _=>?_)
 obtain rfl:r0=[]:=List.eq_nil_of_length_eq_zero hr
 (repeat first|refine And.intro (by omega) ?_|refine And.intro (by decide) ?_|(with_reducible refine frc_parts (by first|omega|decide) ?_)|(with_reducible refine frc_bytesL (by first|omega|decide) ?_)|refine And.intro rfl ?_)
 refine call_same (fn_qlen n) [] rfl (by (repeat first|exact trivial|refine ent1 ?_)) trivial (fun _ _=>trivial) ?_
 rintro x hs ⟨rfl,rfl⟩
 (repeat first|refine And.intro (by omega) ?_|refine And.intro (by decide) ?_|(with_reducible refine frc_parts (by first|omega|decide) ?_)|(with_reducible refine frc_bytesL (by first|omega|decide) ?_)|refine And.intro rfl ?_)
 refine call_same (fn_qwide n (lenN n) (lenN_ok h0) h0 (Nat.le_refl _)) [] rfl (by (repeat first|exact trivial|refine ent1 ?_)) trivial (fun _ _=>trivial) ?_
 rintro x hs ⟨c',hc',rfl,rfl⟩
 refine ⟨.a (.c (.sl 0 0 0 (putL n).length c')),_,⟨[0],⟨rfl,rfl,rfl⟩,?_⟩,c',hc',rfl,rfl⟩
 (repeat first|exact trivial|refine ent1 ?_)
set_option maxRecDepth 20000 in
theorem fn_qlong (s:Sl) (hs:s.Ok) (b:Bs) (c:Nat) (hb:b.length≤400000) (hc:b.length≤c):FnR Try.prog tds 37 1 [svB s,lsC b c] [.c (.sl 1 0 0 b.length c),.c (svC 0 s)] (fun _=>True)
  (fun y hs=>∃ c',(b++longL s.l).length≤c'∧y=.a (.c (.sl 2 0 0 (b++longL s.l).length c'))∧hs=[svB s,[],lsC (b++longL s.l) c']):=by
 refine fn_of_body tds_ok follows_ Try.func37 rfl (t:=.a (.c (.sl 1 0 0 b.length c))::.a (.c (svC 0 s))::anys (Try.f37.ntmps-2)) rfl (fun w r0 hr0 _=>?_)
 obtain ⟨x0,x1,rfl⟩:=len2' hr0
 have hsm:=hs.small
 have hne:=lenN_of hsm
 have hw:BitVec.ofInt 64 ((s.l.length:Nat):Int)=BitVec.ofNat 64 s.l.length:=BitVec.ofInt_natCast _ _
 have hll:=longL_len s.l
 have hpl:=putL_len (BitVec.ofNat 64 s.l.length)
 have hpl8:=lenN_le (BitVec.ofNat 64 s.l.length)
 (repeat first|refine And.intro (by omega) ?_|refine And.intro (by decide) ?_|(with_reducible refine frc_parts (by first|omega|decide) ?_)|(with_reducible refine frc_bytesL (by first|omega|decide) ?_)|refine And.intro rfl ?_)
 rw [hw]
 refine call_same (fn_qput (BitVec.ofNat 64 s.l.length) hne) [] rfl (by (repeat first|exact trivial|refine ent1 ?_)) trivial (fun _ _=>trivial) ?_
 rintro x hs' ⟨c1,hc1,rfl,rfl⟩
 refine ⟨by show 0+(putL (BitVec.ofNat 64 s.l.length)).length≤c1; omega,?_⟩
 refine ⟨⟨hc,by show 0+c≤c; omega,by show (b.length+(putL (BitVec.ofNat 64 s.l.length)).length)*1≤140737488355328; omega⟩,fun c2 hc2=>?_⟩
 refine sn_bts rfl hs.fit (fun h=>by rw [hs.nil h]; rfl) (fun g hg=>?_)
 refine ⟨⟨hc2,by show 0+c2≤c2; omega,by show (b.length+(putL (BitVec.ofNat 64 s.l.length)).length+s.l.length)*1≤140737488355328; omega⟩,fun c3 hc3=>?_⟩
 refine ⟨.a (.c (.sl 2 0 0 (b++longL s.l).length c3)),_,⟨[0,1,4],⟨rfl,rfl,rfl⟩,?_⟩,c3,by simp only [longL,List.length_append]; omega,rfl,rfl⟩
 refine ⟨rfl,by simp only [longL,List.length_append]; omega,rfl,?_⟩
 refine eqC_bts ?_
 (repeat first|exact trivial|refine ent1 ?_)
 refine ⟨fun i hi=>eqC_bytes (fun i hi=>?_) i,trivial⟩
 rw [show b++longL s.l=(b++putL (BitVec.ofNat 64 s.l.length))++s.l by simp [longL]]
 refine app_row (by simp) rfl (fun i hi=>?_) hg i (by simpa [longL,Nat.add_assoc] using hi)
 exact app_row rfl rfl (fun i hi=>bytesF_lt hi) (fun i hi=>by show SC.mp _ (bytesF _ _ i)=_; rw [bytesF_lt hi]; rfl) i hi
end Sx
end
section
namespace Vi
open Sha Sx
def fitP (p:Pm):Pm:=⟨p.a0 % 1073741825#64,p.a1 % 65537#64,p.a2 % 65537#64,p.a3 % 65537#64,p.a4 % 65537#64,p.a5 % 9#64,p.a6 % 9#64,p.a7 % 16384#64,2#64+p.a8 % 3#64,⟨p.s.z,p.s.N,p.s.o,p.s.c,p.s.l.take 20⟩⟩
theorem take_ok20 {s:Sx.Sl} (h:s.Ok) (m:Nat):Sx.Sl.Ok ⟨s.z,s.N,s.o,s.c,s.l.take m⟩:=by
 have h1:=h.fit
 have h2:=h.cap
 have h3:=h.small
 refine ⟨?_,?_,fun hz=>by rw [h.nil hz]; simp,?_⟩ <;> simp only [List.length_take] <;> omega
theorem fit_check (p:Pm):checkP (fitP p)=0:=by
 have m2k:∀ {a b c:BitVec 64},a≤c→b≤c→m2 a b≤c:=fun {a b c} ha hb=>by unfold m2; split <;> assumption
 have k1:∀ (a:BitVec 64),a % 65537#64≤65536#64:=fun a=>by rw [BitVec.le_def,BitVec.toNat_umod]; have:a.toNat % 65537<65537:=Nat.mod_lt _ (by decide); show a.toNat % 65537≤65536; omega
 have k2:∀ (a:BitVec 64),a % 9#64≤8#64:=fun a=>by rw [BitVec.le_def,BitVec.toNat_umod]; have:a.toNat % 9<9:=Nat.mod_lt _ (by decide); show a.toNat % 9≤8; omega
 have k3:(2#64+p.a8 % 3#64).toNat=2+p.a8.toNat % 3:=by
  have:p.a8.toNat % 3<3:=Nat.mod_lt _ (by decide)
  rw [BitVec.toNat_add,BitVec.toNat_umod]
  show (2+p.a8.toNat % 3) % 2 ^ 64=_
  omega
 unfold checkP fitP
 rw [if_neg,if_neg,if_neg,if_neg,if_neg,if_neg,if_neg,if_neg]
 ·simp only [List.length_take]; omega
 ·intro h
  have h:4<(2#64+p.a8 % 3#64).toNat:=h
  omega
 ·intro h
  have h:(2#64+p.a8 % 3#64).toNat<2:=h
  omega
 ·exact fun h=>absurd (k2 p.a6) (Nat.not_le_of_lt h)
 ·exact fun h=>absurd (k2 p.a5) (Nat.not_le_of_lt h)
 ·intro h
  have h:16384≤(p.a7 % 16384#64).toNat:=h
  rw [BitVec.toNat_umod] at h
  have:p.a7.toNat % 16384<16384:=Nat.mod_lt _ (by decide)
  have h:16384≤p.a7.toNat % 16384:=h
  omega
 ·intro h
  have h:1073741824<(p.a0 % 1073741825#64).toNat:=h
  rw [BitVec.toNat_umod] at h
  have:p.a0.toNat % 1073741825<1073741825:=Nat.mod_lt _ (by decide)
  have h:1073741824<p.a0.toNat % 1073741825:=h
  omega
 ·exact fun h=>absurd (m2k (m2k (m2k (k1 p.a1) (k1 p.a2)) (k1 p.a3)) (k1 p.a4)) (Nat.not_le_of_lt h)
instance (p q:Pm):Decidable (sameP p q):=by unfold sameP; infer_instance
end Vi
namespace Sx
open Sha Vi

abbrev nineL (p:Pm):List (BitVec 64):=[p.a0,p.a1,p.a2,p.a3,p.a4,p.a5,p.a6,p.a7,p.a8]
theorem numsN {l:List (BitVec 64)}:∀ {m:List SC},m=l.map SC.w64→∀ (j:Nat) (x:BitVec 64),l[j]?=some x→nthC m j=.w64 x:=by
 rintro m rfl j x h
 induction l generalizing j with
 | nil=>simp at h
 | cons y l ih =>
  cases j with
  | zero=>simp at h; subst h; rfl
  | succ j=>exact ih j (by simpa using h)
set_option maxRecDepth 20000 in
set_option maxHeartbeats 8000000 in
theorem fn_psame (p q:Pm) (hp:p.s.Ok) (hq:q.s.Ok):FnR Try.prog tds 13 2 [svB p.s,svB q.s] [.agg (pmC 0 p),.agg (pmC 1 q)] (fun _=>True)
  (fun y hs=>y=.a (.c (.bool (decide (sameP p q))))∧hs=[svB p.s,svB q.s]):=by
 refine fn_of_body tds_ok follows_ Try.func13 rfl (t:=.a (.agg (pmC 0 p))::.a (.agg (pmC 1 q))::anys (Try.f13.ntmps-2)) rfl (fun w r0 hr _=>?_)
 obtain ⟨x0,x1,rfl⟩:=len2' hr
 by_cases h0:p.a0=q.a0
 rotate_left
 ·have e0:decide (p.a0=q.a0)=false:=decide_eq_false h0
  rw [show decide (sameP p q)=false from decide_eq_false fun h=>h0 h.1]
  (repeat show _∧_;first|refine yr ?_|refine yt ?_|refine yf ?_|refine ya e0 ?_|refine yb e0 ?_|refine yo ?_)
  refine ⟨.a (.c (.bool false)),_,⟨[0,1],⟨rfl,rfl,rfl⟩,?_⟩,rfl,rfl⟩
  (repeat first|exact trivial|refine ent1 ?_)
  refine eqC_bts (eqC_bts ?_)
  (repeat first|exact trivial|refine ent1 ?_)
 have e0:decide (p.a0=q.a0)=true:=decide_eq_true h0
 by_cases h1:p.a1=q.a1
 rotate_left
 ·have e1:decide (p.a1=q.a1)=false:=decide_eq_false h1
  rw [show decide (sameP p q)=false from decide_eq_false fun h=>h1 h.2.1]
  (repeat show _∧_;first|refine yr ?_|refine yt ?_|refine yf ?_|refine ya e0 ?_|refine yb e0 ?_|refine ya e1 ?_|refine yb e1 ?_|refine yo ?_)
  refine ⟨.a (.c (.bool false)),_,⟨[0,1],⟨rfl,rfl,rfl⟩,?_⟩,rfl,rfl⟩
  (repeat first|exact trivial|refine ent1 ?_)
  refine eqC_bts (eqC_bts ?_)
  (repeat first|exact trivial|refine ent1 ?_)
 have e1:decide (p.a1=q.a1)=true:=decide_eq_true h1
 by_cases h2:p.a2=q.a2
 rotate_left
 ·have e2:decide (p.a2=q.a2)=false:=decide_eq_false h2
  rw [show decide (sameP p q)=false from decide_eq_false fun h=>h2 h.2.2.1]
  (repeat show _∧_;first|refine yr ?_|refine yt ?_|refine yf ?_|refine ya e0 ?_|refine yb e0 ?_|refine ya e1 ?_|refine yb e1 ?_|refine ya e2 ?_|refine yb e2 ?_|refine yo ?_)
  refine ⟨.a (.c (.bool false)),_,⟨[0,1],⟨rfl,rfl,rfl⟩,?_⟩,rfl,rfl⟩
  (repeat first|exact trivial|refine ent1 ?_)
  refine eqC_bts (eqC_bts ?_)
  (repeat first|exact trivial|refine ent1 ?_)
 have e2:decide (p.a2=q.a2)=true:=decide_eq_true h2
 by_cases h3:p.a3=q.a3
 rotate_left
 ·have e3:decide (p.a3=q.a3)=false:=decide_eq_false h3
  rw [show decide (sameP p q)=false from decide_eq_false fun h=>h3 h.2.2.2.1]
  (repeat show _∧_;first|refine yr ?_|refine yt ?_|refine yf ?_|refine ya e0 ?_|refine yb e0 ?_|refine ya e1 ?_|refine yb e1 ?_|refine ya e2 ?_|refine yb e2 ?_|refine ya e3 ?_|refine yb e3 ?_|refine yo ?_)
  refine ⟨.a (.c (.bool false)),_,⟨[0,1],⟨rfl,rfl,rfl⟩,?_⟩,rfl,rfl⟩
  (repeat first|exact trivial|refine ent1 ?_)
  refine eqC_bts (eqC_bts ?_)
  (repeat first|exact trivial|refine ent1 ?_)
 have e3:decide (p.a3=q.a3)=true:=decide_eq_true h3
 by_cases h4:p.a4=q.a4
 rotate_left
 ·have e4:decide (p.a4=q.a4)=false:=decide_eq_false h4
  rw [show decide (sameP p q)=false from decide_eq_false fun h=>h4 h.2.2.2.2.1]
  (repeat show _∧_;first|refine yr ?_|refine yt ?_|refine yf ?_|refine ya e0 ?_|refine yb e0 ?_|refine ya e1 ?_|refine yb e1 ?_|refine ya e2 ?_|refine yb e2 ?_|refine ya e3 ?_|refine yb e3 ?_|refine ya e4 ?_|refine yb e4 ?_|refine yo ?_)
  refine ⟨.a (.c (.bool false)),_,⟨[0,1],⟨rfl,rfl,rfl⟩,?_⟩,rfl,rfl⟩
  (repeat first|exact trivial|refine ent1 ?_)
  refine eqC_bts (eqC_bts ?_)
  (repeat first|exact trivial|refine ent1 ?_)
 have e4:decide (p.a4=q.a4)=true:=decide_eq_true h4
 by_cases h5:p.a5=q.a5
 rotate_left
 ·have e5:decide (p.a5=q.a5)=false:=decide_eq_false h5
  rw [show decide (sameP p q)=false from decide_eq_false fun h=>h5 h.2.2.2.2.2.1]
  (repeat show _∧_;first|refine yr ?_|refine yt ?_|refine yf ?_|refine ya e0 ?_|refine yb e0 ?_|refine ya e1 ?_|refine yb e1 ?_|refine ya e2 ?_|refine yb e2 ?_|refine ya e3 ?_|refine yb e3 ?_|refine ya e4 ?_|refine yb e4 ?_|refine ya e5 ?_|refine yb e5 ?_|refine yo ?_)
  refine ⟨.a (.c (.bool false)),_,⟨[0,1],⟨rfl,rfl,rfl⟩,?_⟩,rfl,rfl⟩
  (repeat first|exact trivial|refine ent1 ?_)
  refine eqC_bts (eqC_bts ?_)
  (repeat first|exact trivial|refine ent1 ?_)
 have e5:decide (p.a5=q.a5)=true:=decide_eq_true h5
 by_cases h6:p.a6=q.a6
 rotate_left
 ·have e6:decide (p.a6=q.a6)=false:=decide_eq_false h6
  rw [show decide (sameP p q)=false from decide_eq_false fun h=>h6 h.2.2.2.2.2.2.1]
  (repeat show _∧_;first|refine yr ?_|refine yt ?_|refine yf ?_|refine ya e0 ?_|refine yb e0 ?_|refine ya e1 ?_|refine yb e1 ?_|refine ya e2 ?_|refine yb e2 ?_|refine ya e3 ?_|refine yb e3 ?_|refine ya e4 ?_|refine yb e4 ?_|refine ya e5 ?_|refine yb e5 ?_|refine ya e6 ?_|refine yb e6 ?_|refine yo ?_)
  refine ⟨.a (.c (.bool false)),_,⟨[0,1],⟨rfl,rfl,rfl⟩,?_⟩,rfl,rfl⟩
  (repeat first|exact trivial|refine ent1 ?_)
  refine eqC_bts (eqC_bts ?_)
  (repeat first|exact trivial|refine ent1 ?_)
 have e6:decide (p.a6=q.a6)=true:=decide_eq_true h6
 by_cases h7:p.a7=q.a7
 rotate_left
 ·have e7:decide (p.a7=q.a7)=false:=decide_eq_false h7
  rw [show decide (sameP p q)=false from decide_eq_false fun h=>h7 h.2.2.2.2.2.2.2.1]
  (repeat show _∧_;first|refine yr ?_|refine yt ?_|refine yf ?_|refine ya e0 ?_|refine yb e0 ?_|refine ya e1 ?_|refine yb e1 ?_|refine ya e2 ?_|refine yb e2 ?_|refine ya e3 ?_|refine yb e3 ?_|refine ya e4 ?_|refine yb e4 ?_|refine ya e5 ?_|refine yb e5 ?_|refine ya e6 ?_|refine yb e6 ?_|refine ya e7 ?_|refine yb e7 ?_|refine yo ?_)
  refine ⟨.a (.c (.bool false)),_,⟨[0,1],⟨rfl,rfl,rfl⟩,?_⟩,rfl,rfl⟩
  (repeat first|exact trivial|refine ent1 ?_)
  refine eqC_bts (eqC_bts ?_)
  (repeat first|exact trivial|refine ent1 ?_)
 have e7:decide (p.a7=q.a7)=true:=decide_eq_true h7
 by_cases h8:p.a8=q.a8
 rotate_left
 ·have e8:decide (p.a8=q.a8)=false:=decide_eq_false h8
  rw [show decide (sameP p q)=false from decide_eq_false fun h=>h8 h.2.2.2.2.2.2.2.2.1]
  (repeat show _∧_;first|refine yr ?_|refine yt ?_|refine yf ?_|refine ya e0 ?_|refine yb e0 ?_|refine ya e1 ?_|refine yb e1 ?_|refine ya e2 ?_|refine yb e2 ?_|refine ya e3 ?_|refine yb e3 ?_|refine ya e4 ?_|refine yb e4 ?_|refine ya e5 ?_|refine yb e5 ?_|refine ya e6 ?_|refine yb e6 ?_|refine ya e7 ?_|refine yb e7 ?_|refine ya e8 ?_|refine yb e8 ?_|refine yo ?_)
  refine ⟨.a (.c (.bool false)),_,⟨[0,1],⟨rfl,rfl,rfl⟩,?_⟩,rfl,rfl⟩
  (repeat first|exact trivial|refine ent1 ?_)
  refine eqC_bts (eqC_bts ?_)
  (repeat first|exact trivial|refine ent1 ?_)
 have e8:decide (p.a8=q.a8)=true:=decide_eq_true h8
 (repeat show _∧_;first|refine yr ?_|refine yt ?_|refine yf ?_|refine ya e0 ?_|refine yb e0 ?_|refine ya e1 ?_|refine yb e1 ?_|refine ya e2 ?_|refine yb e2 ?_|refine ya e3 ?_|refine yb e3 ?_|refine ya e4 ?_|refine yb e4 ?_|refine ya e5 ?_|refine yb e5 ?_|refine ya e6 ?_|refine yb e6 ?_|refine ya e7 ?_|refine yb e7 ?_|refine ya e8 ?_|refine yb e8 ?_|refine yo ?_)
 refine call_same (fn_equal p.s q.s hp hq) [0,1] rfl (by (repeat first|exact trivial|refine ent1 ?_)) (by refine eqC_bts (eqC_bts ?_); (repeat first|exact trivial|refine ent1 ?_)) (fun _ _=>trivial) ?_
 rintro x hs' ⟨rfl,rfl⟩
 have hv:decide (sameP p q)=decide (p.s.l=q.s.l):=by unfold sameP; simp [h0,h1,h2,h3,h4,h5,h6,h7,h8]
 rw [hv]
 (repeat show _∧_;first|refine yr ?_|refine yt ?_|refine yf ?_|refine ya e0 ?_|refine yb e0 ?_|refine ya e1 ?_|refine yb e1 ?_|refine ya e2 ?_|refine yb e2 ?_|refine ya e3 ?_|refine yb e3 ?_|refine ya e4 ?_|refine yb e4 ?_|refine ya e5 ?_|refine yb e5 ?_|refine ya e6 ?_|refine yb e6 ?_|refine ya e7 ?_|refine yb e7 ?_|refine ya e8 ?_|refine yb e8 ?_|refine yo ?_)
 refine ⟨.a (.c (.bool (decide (p.s.l=q.s.l)))),_,⟨[0,1],⟨rfl,rfl,rfl⟩,?_⟩,rfl,rfl⟩
 (repeat first|exact trivial|refine ent1 ?_)
 refine eqC_bts (eqC_bts ?_)
 (repeat first|exact trivial|refine ent1 ?_)
end Sx
end
section
namespace Vi
open Sha Sx
abbrev idL:List (BitVec 64):=[1#64,4#64,5#64,6#64,7#64,8#64,9#64,11#64,14#64]
def cats:List (BitVec 64)→List (BitVec 64)→Nat→Bs
 | i::l,n::r,j+1=>numL i n++cats l r j
 | _,_,_=>[]
theorem cats_succ:∀ {l r:List (BitVec 64)} {j:Nat} {i n:BitVec 64},l[j]?=some i→r[j]?=some n→cats l r (j+1)=cats l r j++numL i n
 | x::l,y::r,0,i,n,h1,h2=>by
  simp at h1 h2
  subst h1; subst h2
  cases l <;> cases r <;> simp [cats]
 | x::l,y::r,j+1,i,n,h1,h2=>by
  simp only [List.getElem?_cons_succ] at h1 h2
  rw [cats,cats_succ h1 h2,cats,List.append_assoc]
 | [],_,j,i,n,h1,_=>by simp at h1
 | _::_,[],j,i,n,_,h2=>by simp at h2
theorem cats_len:∀ (l r:List (BitVec 64)) (j:Nat),(cats l r j).length≤24*j
 | i::l,n::r,j+1=>by
  have:=cats_len l r j
  have:=numL_len i n
  simp only [cats,List.length_append]
  omega
 | [],_,_=>by simp [cats]
 | _::_,[],_=>by simp [cats]
 | _::_,_::_,0=>by simp [cats]
theorem cats_put (p:Pm):cats idL (nineL p) 9++putAll [15#64]++longL p.s.l=putP p:=by
 unfold putP
 simp only [cats,List.append_assoc,List.nil_append]
theorem id_ok:∀ i∈idL,lenN i≠0:=by
 intro i hi
 simp only [idL,List.mem_cons,List.not_mem_nil,or_false] at hi
 rcases hi with rfl|rfl|rfl|rfl|rfl|rfl|rfl|rfl|rfl <;> decide
theorem nine_ok {p:Pm} (hc:checkP p=0):∀ i∈nineL p,lenN i≠0:=by
 have hb:=check_ok hc
 intro i hi
 simp only [nineL,List.mem_cons,List.not_mem_nil,or_false] at hi
 refine small_len (show i.toNat≤1073741824 from ?_)
 rcases hi with rfl|rfl|rfl|rfl|rfl|rfl|rfl|rfl|rfl <;> omega
end Vi
namespace Sx
open Sha Vi
theorem mp_row {g:Nat→Nat} {l:Bs} (i:Nat) (hi:i<l.length):SC.mp g (bytesF l.length (L l) i)=.w8 (L l i):=by rw [bytesF_lt hi]; rfl
set_option maxRecDepth 20000 in
set_option maxHeartbeats 8000000 in
theorem fn_qparams (p:Pm) (hp:p.s.Ok) (hc:checkP p=0):FnR Try.prog tds 22 1 [svB p.s] [.agg [.row 9 (numsF (nineL p))],.c (svC 0 p.s)] (fun _=>True)
  (fun y hs=>∃ c',(putP p).length≤c'∧y=.a (.c (.sl 1 0 0 (putP p).length c'))∧hs=[svB p.s,lsC (putP p) c']):=by
 refine fn_of_body tds_ok follows_ Try.func22 rfl (t:=.a (.agg [.row 9 (numsF (nineL p))])::.a (.c (svC 0 p.s))::anys (Try.f22.ntmps-2)) rfl (fun w r0 hr _=>?_)
 obtain ⟨x0,rfl⟩:=List.length_eq_one_iff.1 hr
 have hs20:p.s.l.length≤20:=(check_ok hc).2.2.2.2.2
 (repeat show _∧_;first|refine yr ?_|refine yt ?_|refine yf ?_|refine yo ?_)
 refine .inl ⟨Option (Nat × Nat × Bs),fun x=>match x with
  | none=>⟨[.a (.agg [.row 9 (numsF (nineL p))]),.a (.c (svC 0 p.s)),.a (.c (.p 1 0 0)),.any,.any,.a (.c (.sl 2 0 0 9 9)),.a (.c (.slc none 0 0)),.a (.c (.int .i64 (0))),.any,.any,.any,.any,.any,.any,.any,.any,.any,.any,.any,.any,.any,.any,.any,.any,.any,.any,.any,.any,.any,.any,.any,.any],[svB p.s,[.row 9 (numsF (nineL p))],[.row 9 (numsF idL)]]⟩
  | some (j,c,B)=>⟨[.a (.agg [.row 9 (numsF (nineL p))]),.a (.c (svC 0 p.s)),.a (.c (.p 1 0 0)),.any,.any,.a (.c (.sl 2 0 0 9 9)),.a (.c (.sl 3 0 0 B.length c)),.a (.c (.int .i64 ((j:Nat)))),.any,.any,.any,.any,.any,.any,.any,.any,.any,.any,.any,.any,.any,.any,.any,.any,.any,.any,.any,.any,.any,.any,.any,.any],[svB p.s,[.row 9 (numsF (nineL p))],[.row 9 (numsF idL)],lsC B c]⟩,
  fun x=>match x with
  | none=>True
  | some (j,c,B)=>1≤j∧j≤9∧B.length≤c∧B=cats idL (nineL p) j,fun x=>match x with
  | none=>10
  | some (j,_,_)=>9-j,⟨none,[0,1,2],⟨⟨rfl,rfl,rfl⟩,?_⟩,trivial⟩,fun x=>?_⟩
 ·(repeat first|exact trivial|refine ent1 ?_)
  refine ⟨fun j hj=>eqC_numsS,?_⟩
  (repeat first|exact trivial|refine ent1 ?_)
  refine eqC_bts ?_
  (repeat first|exact trivial|refine ent1 ?_)
  refine ⟨fun j hj=>eqC_numsS,?_⟩
  (repeat first|exact trivial|refine ent1 ?_)
  refine ⟨fun j hj=>eqC_nums (numsN rfl) j,?_⟩
  (repeat first|exact trivial|refine ent1 ?_)
 rcases x with _|⟨j,c,B⟩
 ·intro _
  (repeat show _∧_;first|refine yr ?_|refine yt ?_|refine yf ?_|refine yo ?_)
  refine call_same (fn_qput 1#64 (by decide)) [] rfl (by (repeat first|exact trivial|refine ent1 ?_)) trivial (fun _ _=>trivial) ?_
  rintro x hs' ⟨c1,hc1,rfl,rfl⟩
  have z1:(putL 1#64).length=1:=by decide
  have z0:lenN 1#64=1:=by decide
  have zB:putL 1#64++longL (putL p.a0)=cats idL (nineL p) 1:=by rw [← numL_eq]; simp [cats]
  generalize hP1:putL 1#64=P1 at hc1 z1 zB ⊢
  clear hP1
  refine ⟨by show 0+(P1).length≤c1; omega,⟨rfl,rfl⟩,by show (P1).length*1≤140737488355328; omega,fun hm0=>absurd hm0 (by omega),fun hm0 c2 hc2=>?_⟩
  (repeat show _∧_;first|refine yr ?_|refine yt ?_|refine yf ?_|refine yo ?_)
  have l0:=nine_ok hc p.a0 (by simp [nineL])
  have u0:=putL_len p.a0
  have v0:=lenN_le p.a0
  refine call_same (fn_qput p.a0 l0) [] rfl (by (repeat first|exact trivial|refine ent1 ?_)) trivial (fun _ _=>trivial) ?_
  rintro x hs' ⟨c3,hc3,rfl,rfl⟩
  generalize hN1:putL p.a0=N1 at hc3 u0 zB ⊢
  clear hN1
  (repeat show _∧_;first|refine yr ?_|refine yt ?_|refine yf ?_|refine yo ?_)
  refine call_same (fn_qlong ⟨false,c3,0,c3,N1⟩ (own_ok (by omega) (by omega)) (P1) c2 (by omega) (by omega)) [5,4] rfl (by (repeat first|exact trivial|refine ent1 ?_)) ?_ (fun _ _=>trivial) ?_
  ·refine ⟨rfl,fun j hj=>eqC_winBM (Nat.le_refl _),?_⟩
   (repeat first|exact trivial|refine ent1 ?_)
   refine ⟨fun j hj=>eqC_bytes (fun i hi=>new_row (m:=P1) (fun q hq=>mp_row q hq) i hi) j,?_⟩
   (repeat first|exact trivial|refine ent1 ?_)
  rintro x hs' ⟨c4,hc4,rfl,rfl⟩
  rw [show Sl.l ⟨false,c3,0,c3,N1⟩=N1 from rfl,zB] at hc4 ⊢
  generalize hB1:cats idL (nineL p) 1=B1 at hc4 ⊢
  (repeat show _∧_;first|refine yr ?_|refine yt ?_|refine yf ?_|refine yo ?_)
  refine ⟨some (1,c4,B1),[0,1,2,6],⟨⟨rfl,rfl,rfl⟩,?_⟩,⟨Nat.le_refl _,by decide,hc4,hB1.symm⟩,by show 9-1<10; decide⟩
  (repeat first|exact trivial|refine ent1 ?_)
  refine ⟨fun j hj=>eqC_numsS,?_⟩
  (repeat first|exact trivial|refine ent1 ?_)
  refine eqC_bts ?_
  (repeat first|exact trivial|refine ent1 ?_)
  refine ⟨fun j hj=>eqC_numsS,?_⟩
  (repeat first|exact trivial|refine ent1 ?_)
  refine ⟨fun j hj=>eqC_numsS,?_⟩
  (repeat first|exact trivial|refine ent1 ?_)
 ·rintro ⟨h1,h2,h3,hB⟩
  have hBl:=cats_len idL (nineL p) j
  rw [← hB] at hBl
  by_cases h4:j<9
  ·have e4:decide ((j:Int)<9)=true:=decide_eq_true (by omega)
   obtain ⟨i,hi⟩:∃ i,idL[j]?=some i:=⟨idL[j],List.getElem?_eq_getElem h4⟩
   obtain ⟨n,hn⟩:∃ n,(nineL p)[j]?=some n:=⟨(nineL p)[j],List.getElem?_eq_getElem h4⟩
   have h5:=id_ok i (List.mem_of_getElem? hi)
   have h6:=nine_ok hc n (List.mem_of_getElem? hn)
   (repeat show _∧_;first|refine yr ?_|refine yt ?_|refine yf ?_|refine ya e4 ?_|refine yb e4 ?_|refine yo ?_)
   have hi':idL[((j:Nat):Int).toNat+0]?=some i:=hi
   with_reducible refine frc_nums hi' ?_
   (repeat show _∧_;first|refine yr ?_|refine yt ?_|refine yf ?_|refine ya e4 ?_|refine yb e4 ?_|refine yo ?_)
   refine call_same (fn_qput i h5) [] rfl (by (repeat first|exact trivial|refine ent1 ?_)) trivial (fun _ _=>trivial) ?_
   rintro x hs' ⟨c1,hc1,rfl,rfl⟩
   have w1:(putL i).length=lenN i:=putL_len i
   have w2:=lenN_le i
   have hB':(B++putL i)++longL (putL n)=cats idL (nineL p) (j+1):=by rw [List.append_assoc,← numL_eq,cats_succ hi hn,← hB]
   generalize hP1:putL i=P1 at hc1 w1 hB' ⊢
   clear hP1
   refine ⟨by show 0+(P1).length≤c1; omega,?_⟩
   refine ⟨⟨h3,by show 0+c≤c; omega,by show (B.length+(P1).length)*1≤140737488355328; omega⟩,fun c2 hc2=>?_⟩
   have hn':(nineL p)[((j:Nat):Int).toNat+0]?=some n:=hn
   (repeat show _∧_;first|refine yr ?_|refine yt ?_|refine yf ?_|refine ya e4 ?_|refine yb e4 ?_|refine yo ?_)
   with_reducible refine frc_nums hn' ?_
   (repeat show _∧_;first|refine yr ?_|refine yt ?_|refine yf ?_|refine ya e4 ?_|refine yb e4 ?_|refine yo ?_)
   have u0:=putL_len n
   have v0:=lenN_le n
   refine call_same (fn_qput n h6) [] rfl (by (repeat first|exact trivial|refine ent1 ?_)) trivial (fun _ _=>trivial) ?_
   rintro x hs' ⟨c3,hc3,rfl,rfl⟩
   generalize hN1:putL n=N1 at hc3 u0 hB' ⊢
   clear hN1
   (repeat show _∧_;first|refine yr ?_|refine yt ?_|refine yf ?_|refine ya e4 ?_|refine yb e4 ?_|refine yo ?_)
   have hD:(B++P1).length=B.length+(P1).length:=List.length_append
   have rD:∀ q,q<B.length+(P1).length→appF (bytesF B.length (L B)) 0 (scale B.length (0+1)) (scale (P1).length (0+1)) (fun q=>(fun j=>SC.mp (bk 4 []) (bytesF (P1).length (L (P1)) j)) (q+0)) q=.w8 (L (B++P1) q) :=
    fun q hq=>app_row rfl rfl (fun i hi=>bytesF_lt hi) (fun q hq=>mp_row q hq) q hq
   refine call_same (fn_qlong ⟨false,c3,0,c3,N1⟩ (own_ok (by omega) (by omega)) (B++P1) c2 (by omega) (by omega)) [6,5] rfl (by (repeat first|exact trivial|refine ent1 ?_)) ?_ (fun _ _=>trivial) ?_
   ·refine ⟨rfl,fun j hj=>eqC_winBM (Nat.le_refl _),?_⟩
    (repeat first|exact trivial|refine ent1 ?_)
    refine ⟨fun j hj=>eqC_bytes (fun i hi=>rD i (by omega)) j,?_⟩
    (repeat first|exact trivial|refine ent1 ?_)
   rintro x hs' ⟨c4,hc4,rfl,rfl⟩
   rw [show Sl.l ⟨false,c3,0,c3,N1⟩=N1 from rfl,hB'] at hc4 ⊢
   generalize hB1:cats idL (nineL p) (j+1)=B1 at hc4 ⊢
   (repeat show _∧_;first|refine yr ?_|refine yt ?_|refine yf ?_|refine ya e4 ?_|refine yb e4 ?_|refine yo ?_)
   refine ⟨some (j+1,c4,B1),[0,1,2,7],⟨⟨rfl,rfl,rfl⟩,?_⟩,⟨by omega,by omega,hc4,hB1.symm⟩,by dsimp only; omega⟩
   (repeat first|exact trivial|refine ent1 ?_)
   refine ⟨fun j hj=>eqC_numsS,?_⟩
   (repeat first|exact trivial|refine ent1 ?_)
   refine eqC_bts ?_
   (repeat first|exact trivial|refine ent1 ?_)
   refine ⟨fun j hj=>eqC_numsS,?_⟩
   (repeat first|exact trivial|refine ent1 ?_)
   refine ⟨fun j hj=>eqC_numsS,?_⟩
   (repeat first|exact trivial|refine ent1 ?_)
  ·have e4:decide ((j:Int)<9)=false:=decide_eq_false (by omega)
   have hj:j=9:=by omega
   subst hj
   (repeat show _∧_;first|refine yr ?_|refine yt ?_|refine yf ?_|refine ya e4 ?_|refine yb e4 ?_|refine yo ?_)
   refine ⟨⟨h3,by show 0+c≤c; omega,by show (B.length+1)*1≤140737488355328; omega⟩,fun c2 hc2=>?_⟩
   (repeat show _∧_;first|refine yr ?_|refine yt ?_|refine yf ?_|refine ya e4 ?_|refine yb e4 ?_|refine yo ?_)
   have hD:(B++putAll [15#64]).length=B.length+1:=by rw [List.length_append,one_15]
   have rD:∀ q,q<B.length+1→appF (bytesF B.length (L B)) 0 (scale B.length (0+1)) (scale 1 (0+1)) (fun q=>nthC [SC.w8 15#8] (q+0)) q=.w8 (L (B++[15#8]) q) :=
    fun q hq=>app_row rfl rfl (fun i hi=>bytesF_lt hi) (fun q hq=>one_row rfl q hq) q hq
   refine call_same (fn_qlong p.s hp (B++putAll [15#64]) c2 (by omega) (by omega)) [0,5] rfl (by (repeat first|exact trivial|refine ent1 ?_)) ?_ (fun _ _=>trivial) ?_
   ·refine eqC_bts ?_
    (repeat first|exact trivial|refine ent1 ?_)
    refine ⟨fun j hj=>eqC_bytes (fun i hi=>rD i (by omega)) j,?_⟩
    (repeat first|exact trivial|refine ent1 ?_)
   rintro x hs' ⟨c4,hc4,rfl,rfl⟩
   rw [hB,cats_put] at hc4 ⊢
   generalize putP p=PP at hc4 ⊢
   (repeat show _∧_;first|refine yr ?_|refine yt ?_|refine yf ?_|refine ya e4 ?_|refine yb e4 ?_|refine yo ?_)
   refine ⟨.a (.c (.sl 1 0 0 PP.length c4)),_,⟨[0,6],⟨rfl,rfl,rfl⟩,?_⟩,c4,hc4,rfl,rfl⟩
   (repeat first|exact trivial|refine ent1 ?_)
   refine eqC_bts ?_
   (repeat first|exact trivial|refine ent1 ?_)
end Sx
end
section
namespace Sx
open Go.RowKit Go.ChangeShapes Go.WideShapes

section
variable {H : Type} {enc : TypeId × Value → H} {P : Program} {w : World} {base : Nat} {sp : Nat → Bool} {held : Bool}
theorem wf_w8 {a:Int} (h:(Lit.int .u8 a).wf=true):a=((BitVec.ofInt 8 a).toNat:Int):=by
 have:=bounds_u8 h
 rw [BitVec.toNat_ofInt]
 omega
end
theorem isAs_nil (r:Rho):IsAs r [] []:=⟨rfl,fun j x e=>by simp at e⟩
theorem isAs_cons {r:Rho} {x:SA} {v:Value} {l:List SA} {vs:List Value} (h:SA.Is r x v) (hs:IsAs r l vs):IsAs r (x::l) (v::vs) :=
 ⟨by simpa using hs.1,fun j y e=>by
  cases j with
  | zero=>simp at e; subst e; exact ⟨v,rfl,h⟩
  | succ j=>exact hs.2 j y e⟩
end Sx
end
section
namespace Sx
open Go.RowKit Go.ChangeShapes Go.WideShapes Sha

theorem okWide_spot {P:Program} {w:World} {r:Reach} {b0:Nat} {t e:TypeId} {a:Option Addr} {n c:Nat} (ht:P.underlying t=some (.slice e)) (h:Value.okWide P w r b0 t (.slice a n c)):∀ x,a=some x→x.spot=none:=by
 rintro x rfl
 simp only [Value.okWide,ht,Cell.okWide,Cell.ok] at h
 exact h.2.2.2.1
structure InB (w:World) (a:Option Addr) (n c:Nat) (z:Bool) (l:Bs) (B f:Nat):Prop where
 len:l.length=n
 le:n≤c
 cap:c≤maxLen
 nil:z=true→l=[]
 val:∀ (r:Rho) (i:Nat),r[i]?=some (B,f)→SC.Is r (.sn z i 0 0 n c) (.slice a n c)
 at_:∀ r:Rho,At false r w B f (flat (bts z n 0 n (L l)))
theorem open_b8 {w:World} {a:Option Addr} {len cap:Nat} {zs:List Int} (h:IsRow .u8 w a len cap zs) (hs:∀ x,a=some x→x.spot=none):∃ z l B f,InB w a len cap z l B f:=by
 rcases h with ⟨rfl,rfl,rfl,rfl⟩|⟨x,rfl,hl,hm,hz,hc,hw⟩
 ·exact ⟨true,[],0,0,rfl,Nat.le_refl _,by unfold maxLen; omega,fun _=>rfl,fun r i _=>.inl ⟨rfl,rfl,rfl,rfl⟩,fun r j y e=>by simp [bts,flat] at e⟩
 ·obtain ⟨B,f,spot⟩:=x
  obtain rfl:spot=none:=hs _ rfl
  refine ⟨false,(zs.take len).map (BitVec.ofInt 8),B,f,by simp; omega,hl,hm,fun h=>Bool.noConfusion h,fun r i hr=>.inr (.inl ⟨rfl,B,f,hr,rfl⟩),fun r j y e=>?_⟩
  have hj:j<len:=by
   rcases Nat.lt_or_ge j len with h|h
   ·exact h
   ·rw [List.getElem?_eq_none (by simpa [bts,flat] using h)] at e; cases e
  have e2:y=.w8 (L ((zs.take len).map (BitVec.ofInt 8)) j):=by
   simp only [bts,flat,List.append_nil,List.getElem?_map,Option.map_eq_some_iff] at e
   obtain ⟨i,hi,rfl⟩:=e
   rw [List.getElem?_range (by omega)] at hi
   injection hi with hi
   subst hi
   have:=winF_at 0 len (L ((zs.take len).map (BitVec.ofInt 8))) hj
   rwa [Nat.zero_add] at this
  subst e2
  have hc1:=hc j (by omega)
  have ha:(⟨B,f,none⟩:Addr).add j=⟨B,f+j,none⟩:=by unfold Addr.add; simp
  rw [ha] at hc1
  refine ⟨_,hc1,?_,fun h=>Bool.noConfusion h⟩
  show Value.int .u8 _=Value.int .u8 _
  congr 1
  have hjz:j<zs.length:=by omega
  have h3:zs.getD j 0=zs[j]:=by rw [List.getD_eq_getElem?_getD,List.getElem?_eq_getElem hjz]; rfl
  have h4:L ((zs.take len).map (BitVec.ofInt 8)) j=BitVec.ofInt 8 zs[j]:=by
   rw [L_lt (by simp; omega)]
   simp
  rw [h3,h4]
  exact wf_w8 (hw _ (List.getElem_mem _))
def AllAt (R:Rho) (w:World):List (List Seg)→Rho→Prop
 | [],[]=>True
 | ch::h,(B,f)::r=>At false R w B f (flat ch)∧AllAt R w h r
 | _,_=>False
theorem AllAt.len {R:Rho} {w:World}:∀ {h:List (List Seg)} {r:Rho},AllAt R w h r→r.length=h.length
 | [],[],_=>rfl
 | _::h,_::r,k=>by rw [List.length_cons,List.length_cons,AllAt.len k.2]
 | [],_::_,k=>k.elim
 | _::_,[],k=>k.elim
theorem AllAt.get {R:Rho} {w:World}:∀ {h:List (List Seg)} {r:Rho},AllAt R w h r→∀ (i:Nat) (ch:List Seg) (B f:Nat),h[i]?=some ch→r[i]?=some (B,f)→At false R w B f (flat ch)
 | [],[],_,i,_,_,_,e,_=>by simp at e
 | c::h,(B',f')::r,k,0,_,_,_,e1,e2=>by
  simp at e1 e2
  obtain ⟨rfl,rfl⟩:=e2
  subst e1
  exact k.1
 | c::h,(B',f')::r,k,i+1,_,_,_,e1,e2=>k.2.get i _ _ _ (by simpa using e1) (by simpa using e2)
theorem heapOk_ro {P:Program} {T:List (Nat × TD)} {w:World} {r0:Rho} {h0:List (List Seg)} (hat:AllAt r0 w h0 r0) (hp:∀ (i:Nat) (W:World) (ms:List Nat),h0[i]?=some [.past W ms]→W=w):HeapOk (cx0 P T w r0 h0.length h0) h0 r0 w:=by
 have hlen:=hat.len
 have hget:∀ i,h0[i]?=some (getH h0 i)∨h0[i]?=none:=fun i=>by
  rcases Nat.lt_or_ge i h0.length with h|h
  ·exact .inl (by rw [List.getElem?_eq_getElem h]; have:=getH_eq h0 i; rw [List.getElem?_eq_getElem h] at this; simpa using this.symm)
  ·exact .inr (List.getElem?_eq_none h)
 have out:∀ (i:Nat) (x:Nat × Nat),h0.length≤i→r0[i]?=some x→False:=fun i x hi e=>by
  rw [List.getElem?_eq_none (by omega)] at e; cases e
 refine ⟨Ext.refl _ _,RLe.refl _,Nat.le_of_eq hlen.symm,hlen,fun i ch B f hi hr=>?_,fun i B f ho hr=>(out i _ ho hr).elim,fun i B f ho hr=>(out i _ ho hr).elim,fun i B f ho hl hr=>?_,fun i ch ho hl hi=>?_,fun i j B f f' ch ch' hij o1 o2 h1 h2 r1 r2=>(out i _ o1 r1).elim,fun i m B f ho _ hr=>(out i _ ho hr).elim,fun i W ms hi=>?_⟩
 ·have hil:i<h0.length:=(List.getElem?_eq_some_iff.1 hi).1
  have:Nat.ble h0.length i=false:=by
   cases e:Nat.ble h0.length i
   ·rfl
   ·have:=ble_le e; omega
  show At (Nat.ble h0.length i) _ _ _ _ _
  rw [this]
  exact hat.get i ch B f hi hr
 ·refine ⟨?_,?_⟩
  ·show B ∉ (r0.drop h0.length).map (·.1)
   rw [List.drop_eq_nil_of_le (by omega)]
   simp
  ·rcases hget i with e|e
   ·exact (hat.get i _ B f e hr).lt hl
   ·rw [List.getElem?_eq_none_iff] at e
    exact (out i _ e hr).elim
 ·have hl:¬ flat (getH h0 i)≠[]:=hl
  rcases hget i with e|e
  ·rw [hi] at e
   injection e with e
   rw [e]
   exact Classical.not_not.1 hl
  ·rw [hi] at e; cases e
 ·obtain rfl:=hp i W ms hi
  exact ⟨Ext.refl _ _,fun B _ h2 h3=>⟨i,_,ms,hi,h2,h3⟩,fun j B f ho hr=>(out j _ ho hr).elim⟩
end Sx
end
section
namespace Sx
open Go.RowKit Go.ChangeShapes Go.WideShapes Sha Vi

theorem isL_nil (r:Rho):IsL r [] []:=⟨rfl,fun j x e=>by simp at e⟩
theorem isL_cons {r:Rho} {x:SC} {v:Value} {l:List SC} {vs:List Value} (h:x.Is r v) (hs:IsL r l vs):IsL r (x::l) (v::vs) :=
 ⟨by simpa using hs.1,fun j y e=>by
  cases j with
  | zero=>simp at e; subst e; exact ⟨v,rfl,h⟩
  | succ j=>exact hs.2 j y e⟩
structure Sl.Fit (s:Sl):Prop where
 fit:s.o+s.l.length≤s.N
 cap:s.l.length≤s.c
 nil:s.z=true→s.l=[]
theorem Sl.Fit.ok {s:Sl} (h:s.Fit) (hs:s.l.length≤1000000):s.Ok:=⟨h.fit,h.cap,h.nil,hs⟩
abbrev slI (z:Bool) (c:Nat) (l:Bs):Sl:=⟨z,l.length,0,c,l⟩
theorem InB.fit {w:World} {a:Option Addr} {n c:Nat} {z:Bool} {l:Bs} {B f:Nat} (h:InB w a n c z l B f):(slI z c l).Fit :=
 ⟨by simp,by have:=h.len; have:=h.le; show l.length≤c; omega,h.nil⟩
theorem InB.val' {w:World} {a:Option Addr} {n c:Nat} {z:Bool} {l:Bs} {B f:Nat} (h:InB w a n c z l B f) {r:Rho} {i:Nat} (hr:r[i]?=some (B,f)):(svC i (slI z c l)).Is r (.slice a n c):=by
 have:=h.val r i hr
 rw [← h.len] at this ⊢
 exact this
theorem InB.at' {w:World} {a:Option Addr} {n c:Nat} {z:Bool} {l:Bs} {B f:Nat} (h:InB w a n c z l B f) (r:Rho):At false r w B f (flat (svB (slI z c l))):=by
 have:=h.at_ r
 rw [← h.len] at this
 exact this
end Sx
end
section
namespace Sx
open Sha Vi

end Sx
end
section
namespace Sx
open Sha Vi

abbrev ar (l:Bs):Seg:=.row 32 fun i=>.w8 (L l i)
structure Ms where
 k:BitVec 8
 r:Bs
 p:Pm
 m:Bs
structure Ms.Ok (x:Ms):Prop where
 r:x.r.length=32
 p:x.p.s.Ok
 m:x.m.length=32
abbrev msC (i:Nat) (x:Ms):List Seg:=[.one (.w8 x.k),ar x.r,.one (.w64 x.p.a0),.one (.w64 x.p.a1),.one (.w64 x.p.a2),.one (.w64 x.p.a3),.one (.w64 x.p.a4),.one (.w64 x.p.a5),.one (.w64 x.p.a6),.one (.w64 x.p.a7),.one (.w64 x.p.a8),.one (svC i x.p.s),ar x.m]
def knownK (k:BitVec 8):Bool:=decide (k=1#8) || decide (k=2#8) || decide (k=20#8)
set_option maxRecDepth 20000 in
theorem fn_known (k:BitVec 8):Fn Try.prog tds 31 [] [.c (.w8 k)] (fun _=>True) (fun x hs=>x=.a (.c (.bool (knownK k)))∧hs=[]):=by
 refine fn_of_body tds_ok follows_ Try.func31 rfl (t:=.a (.c (.w8 k))::anys (Try.f31.ntmps-1)) rfl (fun w r0 hr _=>?_)
 obtain rfl:=List.eq_nil_of_length_eq_zero hr
 by_cases h1:k=1#8
 ·have e1:decide (k=1#8)=true:=decide_eq_true h1
  (repeat show _∧_;first|refine yr ?_|refine yt ?_|refine yf ?_|refine yt ?_ (by first|decide|(rw[e1];decide))|refine yf ?_ (by first|decide|(rw[e1];decide))|refine yo ?_)
  refine ⟨.a (.c (.bool true)),_,⟨[],⟨rfl,rfl,rfl⟩,?_⟩,by unfold knownK; rw [e1]; rfl,rfl⟩
  (repeat first|exact trivial|refine ent1 ?_)
 have e1:decide (k=1#8)=false:=decide_eq_false h1
 by_cases h2:k=2#8
 ·have e2:decide (k=2#8)=true:=decide_eq_true h2
  (repeat show _∧_;first|refine yr ?_|refine yt ?_|refine yf ?_|refine yt ?_ (by first|decide|(rw[e1];decide)|(rw[e2];decide))|refine yf ?_ (by first|decide|(rw[e1];decide)|(rw[e2];decide))|refine yo ?_)
  refine ⟨.a (.c (.bool true)),_,⟨[],⟨rfl,rfl,rfl⟩,?_⟩,by unfold knownK; rw [e1,e2]; rfl,rfl⟩
  (repeat first|exact trivial|refine ent1 ?_)
 have e2:decide (k=2#8)=false:=decide_eq_false h2
 (repeat show _∧_;first|refine yr ?_|refine yt ?_|refine yf ?_|refine yt ?_ (by first|decide|(rw[e1];decide)|(rw[e2];decide))|refine yf ?_ (by first|decide|(rw[e1];decide)|(rw[e2];decide))|refine yo ?_)
 refine ⟨.a (.c (.bool (decide (k=20#8)))),_,⟨[],⟨rfl,rfl,rfl⟩,?_⟩,by unfold knownK; rw [e1,e2]; rfl,rfl⟩
 (repeat first|exact trivial|refine ent1 ?_)
set_option maxRecDepth 20000 in
theorem fn_wbytesR (x:Ms) (hx:x.Ok):FnR Try.prog tds 33 2 [msC 1 x,svB x.p.s,wrN] [.c (.p 2 0 0),.c (.sl 0 1 0 32 32)] (fun _=>True)
  (fun y hs=>∃ c,32≤c∧y=.tup []∧hs=[msC 1 x,svB x.p.s,wrC 3 x.r c,lsC x.r c]):=by
 refine fn_of_body tds_ok follows_ Try.func33 rfl (t:=.a (.c (.p 2 0 0))::.a (.c (.sl 0 1 0 32 32))::anys (Try.f33.ntmps-2)) rfl (fun w r0 hr0 _=>?_)
 obtain ⟨x0,x1,x2,rfl⟩:=len3' hr0
 have hr:=hx.r
 (repeat show _∧_;first|refine yr ?_|refine yt ?_|refine yf ?_|refine yo ?_)
 intro c' hc'
 (repeat show _∧_;first|refine yr ?_|refine yt ?_|refine yf ?_|refine yo ?_)
 refine ⟨.tup [],_,⟨[0,1,2,3],⟨rfl,rfl,rfl⟩,?_⟩,c',hc',rfl,rfl⟩
 (repeat first|exact trivial|refine ent1 ?_)
 refine eqC_bts ?_
 refine ⟨rfl,hr.symm,rfl,?_⟩
 (repeat first|exact trivial|refine ent1 ?_)
 refine ⟨fun j hj=>eqC_bytes (fun i hi=>new_row (m:=x.r) (fun q hq=>rfl) i (by rw [hr] at hi; exact hi)) j,?_⟩
 (repeat first|exact trivial|refine ent1 ?_)
set_option maxRecDepth 20000 in
theorem fn_wbytesM0 (x:Ms) (hx:x.Ok):FnR Try.prog tds 33 2 [msC 1 x,svB x.p.s,wrN] [.c (.p 2 0 0),.c (.sl 0 43 0 32 32)] (fun _=>True)
  (fun y hs=>∃ c,32≤c∧y=.tup []∧hs=[msC 1 x,svB x.p.s,wrC 3 x.m c,lsC x.m c]):=by
 refine fn_of_body tds_ok follows_ Try.func33 rfl (t:=.a (.c (.p 2 0 0))::.a (.c (.sl 0 43 0 32 32))::anys (Try.f33.ntmps-2)) rfl (fun w r0 hr0 _=>?_)
 obtain ⟨x0,x1,x2,rfl⟩:=len3' hr0
 have hr:=hx.m
 (repeat show _∧_;first|refine yr ?_|refine yt ?_|refine yf ?_|refine yo ?_)
 intro c' hc'
 (repeat show _∧_;first|refine yr ?_|refine yt ?_|refine yf ?_|refine yo ?_)
 refine ⟨.tup [],_,⟨[0,1,2,3],⟨rfl,rfl,rfl⟩,?_⟩,c',hc',rfl,rfl⟩
 (repeat first|exact trivial|refine ent1 ?_)
 refine eqC_bts ?_
 refine ⟨rfl,hr.symm,rfl,?_⟩
 (repeat first|exact trivial|refine ent1 ?_)
 refine ⟨fun j hj=>eqC_bytes (fun i hi=>new_row (m:=x.m) (fun q hq=>rfl) i (by rw [hr] at hi; exact hi)) j,?_⟩
 (repeat first|exact trivial|refine ent1 ?_)
set_option maxRecDepth 20000 in
theorem fn_wbytesM (x:Ms) (hx:x.Ok) (b:Bs) (c:Nat) (hb:b.length≤1000000) (hc:b.length≤c):FnR Try.prog tds 33 2 [msC 1 x,svB x.p.s,wrC 3 b c,lsC b c] [.c (.p 2 0 0),.c (.sl 0 43 0 32 32)] (fun _=>True)
  (fun y hs=>∃ c',(b++x.m).length≤c'∧y=.tup []∧hs=[msC 1 x,svB x.p.s,wrC 4 (b++x.m) c',[],lsC (b++x.m) c']):=by
 refine fn_of_body tds_ok follows_ Try.func33 rfl (t:=.a (.c (.p 2 0 0))::.a (.c (.sl 0 43 0 32 32))::anys (Try.f33.ntmps-2)) rfl (fun w r0 hr0 _=>?_)
 obtain ⟨x0,x1,x2,x3,rfl⟩:=len4' hr0
 have hr:=hx.m
 (repeat show _∧_;first|refine yr ?_|refine yt ?_|refine yf ?_|refine yo ?_)
 refine ⟨⟨hc,by show 0+c≤c; omega,by show (b.length+32)*1≤140737488355328; omega⟩,fun c' hc'=>?_⟩
 (repeat show _∧_;first|refine yr ?_|refine yt ?_|refine yf ?_|refine yo ?_)
 refine ⟨.tup [],_,⟨[0,1,2,3,4],⟨rfl,rfl,rfl⟩,?_⟩,c',by rw [List.length_append,hr]; exact hc',rfl,rfl⟩
 (repeat first|exact trivial|refine ent1 ?_)
 refine eqC_bts ?_
 refine ⟨rfl,by rw [List.length_append,hr],rfl,?_⟩
 (repeat first|exact trivial|refine ent1 ?_)
 refine ⟨fun j hj=>eqC_bytes (fun i hi=>app_row (l:=b) (m:=x.m) rfl hr (fun i hi=>bytesF_lt hi) (fun q hq=>rfl) i (by rw [List.length_append,hr] at hi; exact hi)) j,?_⟩
 (repeat first|exact trivial|refine ent1 ?_)
end Sx
end
section
namespace Vi
open Sha Sx
def errMs (x:Ms):Int:=if knownK x.k=false then 5 else if x.k=20#8 then 0 else checkP x.p
def bodyMs (x:Ms):Bs:=if x.k=20#8 then x.m else x.r++longL (putP x.p)++x.m
def headMs (k:BitVec 8) (n:Nat):Bs:=[k,BitVec.ofNat 8 (n / 65536),BitVec.ofNat 8 (n / 256),BitVec.ofNat 8 n]
def putMs (x:Ms):Bs:=headMs x.k (bodyMs x).length++bodyMs x
theorem bodyMs_len {x:Ms} (hx:x.Ok) (h:errMs x=0):(bodyMs x).length≤340∧32≤(bodyMs x).length:=by
 have h1:=hx.r
 have h2:=hx.m
 unfold bodyMs
 split
 ·omega
 ·rename_i h3
  unfold errMs at h
  split at h
  ·exact absurd h (by decide)
  have h:checkP x.p=0:=by first|exact h|(rw [if_neg h3] at h; exact h)
  have hs20:=(check_ok h).2.2.2.2.2
  have q0:=numL_len 1#64 x.p.a0
  have q1:=app_len q0 (numL_len 4#64 x.p.a1)
  have q2:=app_len q1 (numL_len 5#64 x.p.a2)
  have q3:=app_len q2 (numL_len 6#64 x.p.a3)
  have q4:=app_len q3 (numL_len 7#64 x.p.a4)
  have q5:=app_len q4 (numL_len 8#64 x.p.a5)
  have q6:=app_len q5 (numL_len 9#64 x.p.a6)
  have q7:=app_len q6 (numL_len 11#64 x.p.a7)
  have q8:=app_len q7 (numL_len 14#64 x.p.a8)
  have q9:=app_len q8 (Nat.le_of_eq one_15)
  have q10:=app_len q9 (longL_len x.p.s.l)
  have q11:(putP x.p).length≤_:=q10
  have q12:=longL_len (putP x.p)
  simp only [List.length_append]
  omega
end Vi
namespace Sx
open Sha Vi

theorem byte16 (n:Nat):BitVec.ofInt 8 ((n:Int) / 65536)=BitVec.ofNat 8 (n / 65536)∧BitVec.ofInt 8 ((n:Int) / 256)=BitVec.ofNat 8 (n / 256)∧BitVec.ofInt 8 (n:Int)=BitVec.ofNat 8 n :=
 ⟨BitVec.ofInt_natCast _ _,BitVec.ofInt_natCast _ _,BitVec.ofInt_natCast _ _⟩
theorem head_row (k:BitVec 8) (n:Nat) (i:Nat) (hi:i<4):nthC [.w8 k,.w8 (BitVec.ofInt 8 ((n:Int) / 2 ^ 16)),.w8 (BitVec.ofInt 8 ((n:Int) / 2 ^ 8)),.w8 (BitVec.ofInt 8 (n:Int))] i=.w8 (L (headMs k n) i):=by
 obtain ⟨h1,h2,h3⟩:=byte16 n
 have:i=0∨i=1∨i=2∨i=3:=by omega
 rcases this with rfl|rfl|rfl|rfl
 ·rfl
 ·exact congrArg SC.w8 h1
 ·exact congrArg SC.w8 h2
 ·exact congrArg SC.w8 h3
theorem err_known0 {x:Ms} (h:errMs x=0):knownK x.k=true∧(x.k≠20#8→checkP x.p=0):=by
 unfold errMs at h
 cases hk:knownK x.k with
 | false=>rw [if_pos hk] at h; exact absurd h (by decide)
 | true =>
  rw [if_neg (by rw [hk]; decide)] at h
  refine ⟨rfl,fun h2=>?_⟩
  rw [if_neg h2] at h
  exact h
set_option maxRecDepth 20000 in
set_option maxHeartbeats 8000000 in
theorem fn_msputS (x:Ms) (hx:x.Ok) (hE0:errMs x=0):FnR Try.prog tds 20 1 [svB x.p.s] [.agg (msC 0 x)] (fun _=>True)
  (fun y hs=>∃ c,(putMs x).length≤c∧y=.tup [.c (.sl 1 0 0 (putMs x).length c),.c (.int .i64 0)]∧hs=[svB x.p.s,lsC (putMs x) c]):=by
 refine fn_of_body tds_ok follows_ Try.func20 rfl (t:=.a (.agg (msC 0 x))::anys (Try.f20.ntmps-1)) rfl (fun w r0 hr _=>?_)
 obtain ⟨x0,rfl⟩:=List.length_eq_one_iff.1 hr
 have hr32:=hx.r
 have hm32:=hx.m
 (repeat show _∧_;first|refine yr ?_|refine yt ?_|refine yf ?_|refine yo ?_)
 refine call_same (fn_known x.k) [] rfl (by (repeat first|exact trivial|refine ent1 ?_)) trivial (fun _ _=>trivial) ?_
 rintro y hs' ⟨rfl,rfl⟩
 have h1:=(err_known0 hE0).1
 have e1:(!knownK x.k)=false:=by rw [h1]; rfl
 by_cases h2:x.k=20#8
 ·have e2:decide (x.k≠20#8)=false:=decide_eq_false fun h=>h h2
  have hE:errMs x=0:=by unfold errMs; rw [if_neg (by rw [h1]; decide),if_pos h2]
  have hB:x.m=bodyMs x:=by unfold bodyMs; rw [if_pos h2]
  have hBl:=bodyMs_len hx hE
  have hP:headMs x.k (bodyMs x).length++bodyMs x=putMs x:=rfl
  (repeat show _∧_;first|refine yr ?_|refine yt ?_|refine yf ?_|refine ya e1 ?_|refine yb e1 ?_|refine ya e2 ?_|refine yb e2 ?_|refine yo ?_)
  refine call_same (fn_wbytesM0 x hx) [1,0,2] rfl (by (repeat first|exact trivial|refine ent1 ?_)) (by (repeat first|exact trivial|refine ent1 ?_); refine eqC_bts ?_; (repeat first|exact trivial|refine ent1 ?_)) (fun _ _=>trivial) ?_
  rintro y hs' ⟨c1,hc1,rfl,rfl⟩
  have hBm:x.m.length≤c1:=by omega
  generalize hPP:putMs x=PP at hP ⊢
  generalize bodyMs x=B at hB hBl hP
  rw [hB] at hBm ⊢
  clear hB hPP
  have hBs:B.length≤1000000:=by omega
  have hBp:0<B.length:=by omega
  (repeat show _∧_;first|refine yr ?_|refine yt ?_|refine yf ?_|refine ya e1 ?_|refine yb e1 ?_|refine ya e2 ?_|refine yb e2 ?_|refine yo ?_)
  refine call_same (fn_wdone B c1 hBs hBm hBp) [2,3] rfl (by (repeat first|exact trivial|refine ent1 ?_)) (by (repeat first|exact trivial|refine ent1 ?_)) (fun _ _=>trivial) ?_
  rintro x hs' ⟨cd,hcd,rfl,rfl⟩
  have e9:decide ((0:Int)≠0)=false:=by decide
  (repeat show _∧_;first|refine yr ?_|refine yt ?_|refine yf ?_|refine ya e1 ?_|refine yb e1 ?_|refine ya e2 ?_|refine yb e2 ?_|refine ya e9 ?_|refine yb e9 ?_|refine yo ?_)
  refine ⟨by show 0+B.length≤cd; omega,?_⟩
  refine ⟨⟨Nat.le_refl _,Nat.le_refl _,by show (4+B.length)*1≤140737488355328; omega⟩,fun cf hcf=>?_⟩
  have hPl:PP.length=4+B.length:=by rw [← hP,List.length_append]; rfl
  have rP:∀ q,q<PP.length→appF (nthC [.w8 x.k,.w8 (BitVec.ofInt 8 ((B.length:Int) / 2 ^ 16)),.w8 (BitVec.ofInt 8 ((B.length:Int) / 2 ^ 8)),.w8 (BitVec.ofInt 8 (B.length:Int))]) 0 (scale 4 (0+1)) (scale B.length (0+1)) (fun q=>(fun j=>SC.mp (bk 4 [2,3]) (bytesF B.length (L B) j)) (q+0)) q=.w8 (L PP q):=by
   intro q hq
   rw [← hP]
   exact app_row (l:=headMs x.k B.length) (m:=B) (n:=4) (k:=B.length) rfl rfl (fun i hi=>head_row x.k B.length i hi) (fun q hq=>mp_row q hq) q (by omega)
  (repeat show _∧_;first|refine yr ?_|refine yt ?_|refine yf ?_|refine ya e1 ?_|refine yb e1 ?_|refine ya e2 ?_|refine yb e2 ?_|refine ya e9 ?_|refine yb e9 ?_|refine yo ?_)
  refine ⟨.tup [.c (.sl 1 0 0 PP.length cf),.c (.int .i64 0)],_,⟨[0,6],⟨rfl,rfl,rfl⟩,?_⟩,cf,by omega,rfl,rfl⟩
  (repeat first|exact trivial|refine ent1 ?_)
  refine eqC_bts ?_
  (repeat first|exact trivial|refine ent1 ?_)
  refine ⟨fun j hj=>eqC_bytes (fun i hi=>rP i hi) j,?_⟩
  (repeat first|exact trivial|refine ent1 ?_)
 have e2:decide (x.k≠20#8)=true:=decide_eq_true h2
 have hE:errMs x=checkP x.p:=by unfold errMs; rw [if_neg (by rw [h1]; decide),if_neg h2]
 (repeat show _∧_;first|refine yr ?_|refine yt ?_|refine yf ?_|refine ya e1 ?_|refine yb e1 ?_|refine ya e2 ?_|refine yb e2 ?_|refine yo ?_)
 refine call_same (fn_pput x.p hx.p) [0] rfl (by (repeat first|exact trivial|refine ent1 ?_)) (by refine eqC_bts ?_; (repeat first|exact trivial|refine ent1 ?_)) (fun _ _=>trivial) ?_
 rintro y hs' ⟨t,ht,hl,rfl,rfl⟩
 have h3:=(err_known0 hE0).2 h2
 have e3:decide (checkP x.p≠0)=false:=decide_eq_false fun h=>h h3
 have hB:x.r++longL t.l++x.m=bodyMs x:=by unfold bodyMs; rw [if_neg h2,hl h3]
 have hBl:=bodyMs_len hx (hE.trans h3)
 have hP:headMs x.k (bodyMs x).length++bodyMs x=putMs x:=rfl
 have htl:=longL_len t.l
 have hta:(longL t.l).length≤340:=by have:=hB ▸ hBl; simp only [List.length_append] at this; omega
 (repeat show _∧_;first|refine yr ?_|refine yt ?_|refine yf ?_|refine ya e1 ?_|refine yb e1 ?_|refine ya e2 ?_|refine yb e2 ?_|refine ya e3 ?_|refine yb e3 ?_|refine yo ?_)
 refine call_same (fn_wbytesR x hx) [1,0,2] rfl (by (repeat first|exact trivial|refine ent1 ?_)) (by (repeat first|exact trivial|refine ent1 ?_); refine eqC_bts ?_; (repeat first|exact trivial|refine ent1 ?_)) (fun _ _=>trivial) ?_
 rintro y hs' ⟨c1,hc1,rfl,rfl⟩
 (repeat show _∧_;first|refine yr ?_|refine yt ?_|refine yf ?_|refine ya e1 ?_|refine yb e1 ?_|refine ya e2 ?_|refine yb e2 ?_|refine ya e3 ?_|refine yb e3 ?_|refine yo ?_)
 refine call_same (fn_wlong t ht x.r c1 (by omega) (by omega)) [3,2,4] rfl (by (repeat first|exact trivial|refine ent1 ?_)) (by refine eqC_btsM ?_; (repeat first|exact trivial|refine ent1 ?_)) (fun _ _=>trivial) ?_
 rintro y hs' ⟨c2,hc2,rfl,rfl⟩
 have hD:(x.r++longL t.l).length≤1000000:=by rw [List.length_append]; omega
 generalize hDD:x.r++longL t.l=D at hc2 hD hB ⊢
 (repeat show _∧_;first|refine yr ?_|refine yt ?_|refine yf ?_|refine ya e1 ?_|refine yb e1 ?_|refine ya e2 ?_|refine yb e2 ?_|refine ya e3 ?_|refine yb e3 ?_|refine yo ?_)
 refine call_same (fn_wbytesM x hx D c2 hD hc2) [1,0,2,5] rfl (by (repeat first|exact trivial|refine ent1 ?_)) (by (repeat first|exact trivial|refine ent1 ?_); refine eqC_bts ?_; (repeat first|exact trivial|refine ent1 ?_)) (fun _ _=>trivial) ?_
 rintro y hs' ⟨c3,hc3,rfl,rfl⟩
 rw [h3]
 generalize hPP:putMs x=PP at hP ⊢
 generalize bodyMs x=B at hB hBl hP
 rw [hB] at hc3 ⊢
 clear hB hPP
 have hBs:B.length≤1000000:=by omega
 have hBp:0<B.length:=by omega
 (repeat show _∧_;first|refine yr ?_|refine yt ?_|refine yf ?_|refine ya e1 ?_|refine yb e1 ?_|refine ya e2 ?_|refine yb e2 ?_|refine ya e3 ?_|refine yb e3 ?_|refine yo ?_)
 refine call_same (fn_wdone B c3 hBs hc3 hBp) [2,6] rfl (by (repeat first|exact trivial|refine ent1 ?_)) (by (repeat first|exact trivial|refine ent1 ?_)) (fun _ _=>trivial) ?_
 rintro x hs' ⟨cd,hcd,rfl,rfl⟩
 have e9:decide ((0:Int)≠0)=false:=by decide
 (repeat show _∧_;first|refine yr ?_|refine yt ?_|refine yf ?_|refine ya e1 ?_|refine yb e1 ?_|refine ya e2 ?_|refine yb e2 ?_|refine ya e3 ?_|refine yb e3 ?_|refine ya e9 ?_|refine yb e9 ?_|refine yo ?_)
 refine ⟨by show 0+B.length≤cd; omega,?_⟩
 refine ⟨⟨Nat.le_refl _,Nat.le_refl _,by show (4+B.length)*1≤140737488355328; omega⟩,fun cf hcf=>?_⟩
 have hPl:PP.length=4+B.length:=by rw [← hP,List.length_append]; rfl
 have rP:∀ q,q<PP.length→appF (nthC [.w8 x.k,.w8 (BitVec.ofInt 8 ((B.length:Int) / 2 ^ 16)),.w8 (BitVec.ofInt 8 ((B.length:Int) / 2 ^ 8)),.w8 (BitVec.ofInt 8 (B.length:Int))]) 0 (scale 4 (0+1)) (scale B.length (0+1)) (fun q=>(fun j=>SC.mp (bk 7 [2,6]) (bytesF B.length (L B) j)) (q+0)) q=.w8 (L PP q):=by
  intro q hq
  rw [← hP]
  exact app_row (l:=headMs x.k B.length) (m:=B) (n:=4) (k:=B.length) rfl rfl (fun i hi=>head_row x.k B.length i hi) (fun q hq=>mp_row q hq) q (by omega)
 (repeat show _∧_;first|refine yr ?_|refine yt ?_|refine yf ?_|refine ya e1 ?_|refine yb e1 ?_|refine ya e2 ?_|refine yb e2 ?_|refine ya e3 ?_|refine yb e3 ?_|refine ya e9 ?_|refine yb e9 ?_|refine yo ?_)
 refine ⟨.tup [.c (.sl 1 0 0 PP.length cf),.c (.int .i64 0)],_,⟨[0,9],⟨rfl,rfl,rfl⟩,?_⟩,cf,by omega,rfl,rfl⟩
 (repeat first|exact trivial|refine ent1 ?_)
 refine eqC_bts ?_
 (repeat first|exact trivial|refine ent1 ?_)
 refine ⟨fun j hj=>eqC_bytes (fun i hi=>rP i hi) j,?_⟩
 (repeat first|exact trivial|refine ent1 ?_)
end Sx
end
section
namespace Vi
open Sha Sx
def lenH (l:Bs):Nat:=(L l 1).toNat*65536+(L l 2).toNat*256+(L l 3).toNat
def wholeM (l:Bs):Nat × Int:=if l.length<4 then (0,0) else if 512<lenH l then (0,6) else if l.length<4+lenH l then (0,0) else (4+lenH l,0)
def zer32:Bs:=List.replicate 32 0#8
def ms0:Ms:=⟨0#8,zer32,pm0,zer32⟩
def lastMs (k:BitVec 8) (r:Bs) (p:Pm) (R:Bs) (e:Int) (x:Ms):Prop:=match bytesM R 0 32 with
 | (m,R',e1)=>match endM R' e1 with
  | (_,e2)=>(e2≠0→e=e2∧x=ms0)∧(e2=0→e=0∧x=⟨k,r,p,m⟩)
def restMs (k:BitVec 8) (R:Bs) (e:Int) (x:Ms):Prop:=(k=20#8→lastMs k zer32 pm0 R e x)∧(k≠20#8→match bytesM R 0 32 with
 | (r,R1,e1)=>match longM R1 e1 512 with
  | (v,R2,e2)=>(e2≠0→e=e2∧x=ms0)∧(e2=0→∃ e3 p,takeP v e3 p∧p.s.Ok∧(e3≠0→e=e3∧x=ms0)∧(e3=0→lastMs k r p R2 e x)))
def takeMs (l:Bs) (e:Int) (x:Ms):Prop:=match wholeM l with
 | (n,f)=>(f≠0→e=f∧x=ms0)∧(f=0→(n=0→e=3∧x=ms0)∧(n≠0→(n<l.length→e=24∧x=ms0)∧(¬ n<l.length →
  (knownK (L l 0)=false→e=5∧x=ms0)∧(knownK (L l 0)=true→restMs (L l 0) (l.drop 4) e x))))
theorem or_add {a b:Nat} (k:Nat) (h:b<2 ^ k):a*2 ^ k ||| b=a*2 ^ k+b:=by
 rw [Nat.mul_comm]; exact (Nat.two_pow_add_eq_or_of_lt h a).symm
theorem raw1 {x y:Nat} (hy:y<256):(((x:Nat):Int)*2 ^ 16).toNat ||| (((y:Nat):Int)*2 ^ 8).toNat=x*65536+y*256:=by
 have e1:(((x:Nat):Int)*2 ^ 16).toNat=x*2 ^ 16:=by omega
 have e2:(((y:Nat):Int)*2 ^ 8).toNat=y*2 ^ 8:=by omega
 rw [e1,e2,or_add 16 (by omega)]
theorem rawH {x y z:Nat} (hy:y<256) (hz:z<256):((((((x:Nat):Int)*2 ^ 16).toNat ||| (((y:Nat):Int)*2 ^ 8).toNat:Nat):Int).toNat ||| ((z:Nat):Int).toNat)=x*65536+y*256+z:=by
 rw [raw1 hy,Int.toNat_natCast,Int.toNat_natCast,show x*65536+y*256=(x*256+y)*2 ^ 8 by omega,or_add 8 (by omega)]
end Vi
namespace Sx
open Sha Vi
set_option maxRecDepth 20000 in
set_option maxHeartbeats 8000000 in
theorem fn_whole (s:Sl) (hs:s.Ok):FnR Try.prog tds 41 1 [svB s] [.c (svC 0 s)] (fun _=>True)
  (fun y hs=>y=.tup [.c (.int .i64 ((wholeM s.l).1:Nat)),.c (.int .i64 (wholeM s.l).2)]∧hs=[svB s]):=by
 refine fn_of_body tds_ok follows_ Try.func41 rfl (t:=.a (.c (svC 0 s))::anys (Try.f41.ntmps-1)) rfl (fun w r0 hr _=>?_)
 obtain ⟨x0,rfl⟩:=List.length_eq_one_iff.1 hr
 have hf:=hs.fit
 have hsm:=hs.small
 unfold wholeM
 by_cases h1:s.l.length<4
 ·have e1:decide ((s.l.length:Int)<4)=true:=decide_eq_true (by omega)
  rw [if_pos h1]
  (repeat show _∧_;first|refine yr ?_|refine yt ?_|refine yf ?_|refine ya e1 ?_|refine yb e1 ?_|refine yo ?_)
  refine ⟨.tup [.c (.int .i64 0),.c (.int .i64 0)],_,⟨[0],⟨rfl,rfl,rfl⟩,?_⟩,rfl,rfl⟩
  (repeat first|exact trivial|refine ent1 ?_)
  refine eqC_bts ?_
  (repeat first|exact trivial|refine ent1 ?_)
 rw [if_neg h1]
 have e1:decide ((s.l.length:Int)<4)=false:=decide_eq_false (by omega)
 have hz:s.z=false:=hs.pos (by omega)
 have b1:=(L s.l 1).isLt
 have b2:=(L s.l 2).isLt
 have b3:=(L s.l 3).isLt
 rw [svB_row hz]
 (repeat show _∧_;first|refine yr ?_|refine yt ?_|refine yf ?_|refine ya e1 ?_|refine yb e1 ?_|refine yo ?_)
 refine ⟨none,[],[(0,true),(1,true),(2,true),(3,true),(4,true),(5,true),(6,true),(7,true),(8,true),(9,true),(10,true),(11,true),(12,true),(13,true),(14,true),(15,true),(16,true)],[],by kernel_rfl,?_⟩
 (repeat show _∧_;first|refine yr ?_|refine yt ?_|refine yf ?_|refine ya e1 ?_|refine yb e1 ?_|refine yo ?_)
 refine frc_eq (y:=.w8 (L s.l 1)) (by rw [show Int.toNat 1+s.o=s.o+1 by omega,winF_at _ _ _ (by omega)]) ?_
 refine And.intro (show 16<64∧(-9223372036854775808:Int)≤(((L s.l 1).toNat:Nat):Int)*2 ^ 16∧(((L s.l 1).toNat:Nat):Int)*2 ^ 16≤9223372036854775807 by omega) ?_
 (repeat show _∧_;first|refine yr ?_|refine yt ?_|refine yf ?_|refine ya e1 ?_|refine yb e1 ?_|refine yo ?_)
 refine frc_eq (y:=.w8 (L s.l 2)) (by rw [show Int.toNat 2+s.o=s.o+2 by omega,winF_at _ _ _ (by omega)]) ?_
 refine And.intro (show 8<64∧(-9223372036854775808:Int)≤(((L s.l 2).toNat:Nat):Int)*2 ^ 8∧(((L s.l 2).toNat:Nat):Int)*2 ^ 8≤9223372036854775807 by omega) ?_
 refine And.intro (show (0:Int)≤(((L s.l 1).toNat:Nat):Int)*2 ^ 16∧(0:Int)≤(((L s.l 2).toNat:Nat):Int)*2 ^ 8∧(((L s.l 1).toNat:Nat):Int)*2 ^ 16≤9223372036854775807∧(((L s.l 2).toNat:Nat):Int)*2 ^ 8≤9223372036854775807 by omega) ?_
 (repeat show _∧_;first|refine yr ?_|refine yt ?_|refine yf ?_|refine ya e1 ?_|refine yb e1 ?_|refine yo ?_)
 refine frc_eq (y:=.w8 (L s.l 3)) (by rw [show Int.toNat 3+s.o=s.o+3 by omega,winF_at _ _ _ (by omega)]) ?_
 have o1:=raw1 (x:=(L s.l 1).toNat) b2
 have o2:=rawH (x:=(L s.l 1).toNat) b2 b3
 refine And.intro (show (0:Int)≤(((((L s.l 1).toNat:Nat):Int)*2 ^ 16).toNat ||| ((((L s.l 2).toNat:Nat):Int)*2 ^ 8).toNat:Nat)∧(0:Int)≤(((L s.l 3).toNat:Nat):Int)∧(((((((L s.l 1).toNat:Nat):Int)*2 ^ 16).toNat ||| ((((L s.l 2).toNat:Nat):Int)*2 ^ 8).toNat):Nat):Int)≤9223372036854775807∧(((L s.l 3).toNat:Nat):Int)≤9223372036854775807 by rw [o1]; omega) ?_
 have o3:(L s.l 1).toNat*65536+(L s.l 2).toNat*256+(L s.l 3).toNat=lenH s.l:=rfl
 have o4:lenH s.l≤16777215:=by unfold lenH; omega
 rw [o3] at o2
 rw [o2]
 generalize lenH s.l=H at o4 ⊢
 clear o2 o3 o1
 by_cases h2:512<H
 ·have e2:decide ((512:Int)<(H:Int))=true:=decide_eq_true (by omega)
  rw [if_pos h2]
  (repeat show _∧_;first|refine yr ?_|refine yt ?_|refine yf ?_|refine ya e1 ?_|refine yb e1 ?_|refine ya e2 ?_|refine yb e2 ?_|refine yo ?_)
  refine ⟨.tup [.c (.int .i64 0),.c (.int .i64 6)],_,⟨[0],⟨rfl,rfl,rfl⟩,?_⟩,rfl,rfl⟩
  (repeat first|exact trivial|refine ent1 ?_)
 rw [if_neg h2]
 have e2:decide ((512:Int)<(H:Int))=false:=decide_eq_false (by omega)
 by_cases h3:s.l.length<4+H
 ·have e3:decide ((s.l.length:Int)<4+(H:Int))=true:=decide_eq_true (by omega)
  rw [if_pos h3]
  (repeat show _∧_;first|refine yr ?_|refine yt ?_|refine yf ?_|refine ya e1 ?_|refine yb e1 ?_|refine ya e2 ?_|refine yb e2 ?_|refine ya e3 ?_|refine yb e3 ?_|refine yo ?_)
  refine ⟨.tup [.c (.int .i64 0),.c (.int .i64 0)],_,⟨[0],⟨rfl,rfl,rfl⟩,?_⟩,rfl,rfl⟩
  (repeat first|exact trivial|refine ent1 ?_)
 rw [if_neg h3]
 have e3:decide ((s.l.length:Int)<4+(H:Int))=false:=decide_eq_false (by omega)
 (repeat show _∧_;first|refine yr ?_|refine yt ?_|refine yf ?_|refine ya e1 ?_|refine yb e1 ?_|refine ya e2 ?_|refine yb e2 ?_|refine ya e3 ?_|refine yb e3 ?_|refine yo ?_)
 refine ⟨.tup [.c (.int .i64 ((4+H:Nat):Int)),.c (.int .i64 0)],_,⟨[0],⟨rfl,rfl,rfl⟩,?_⟩,rfl,rfl⟩
 (repeat first|exact trivial|refine ent1 ?_)
end Sx
end
section
namespace Sx
open Sha Vi
def dropS (s:Sl) (k:Nat):Sl:=⟨s.z,s.N,if s.c=k then s.o else s.o+k,s.c-k,s.l.drop k⟩
theorem drop_ok {s:Sl} (hs:s.Ok) {k:Nat} (hk:k≤s.l.length):(dropS s k).Ok:=by
 have h1:=hs.fit
 have h2:=hs.cap
 have h3:=hs.small
 refine ⟨?_,?_,fun hz=>?_,?_⟩
 ·show (if s.c=k then s.o else s.o+k)+(s.l.drop k).length≤s.N
  rw [List.length_drop]
  split <;> omega
 ·show (s.l.drop k).length≤s.c-k
  rw [List.length_drop]; omega
 ·show s.l.drop k=[]
  rw [hs.nil hz]; simp
 ·show (s.l.drop k).length≤1000000
  rw [List.length_drop]; omega
theorem drop_sub {s:Sl} (hs:s.Ok) {k:Nat} (hk:k≤s.l.length):Sub s (dropS s k):=by
 have h2:=hs.cap
 refine ⟨id,fun _=>rfl,fun hne=>?_,fun i hi=>?_⟩
 ·have:(s.l.drop k).length≠0:=fun h=>hne (List.eq_nil_of_length_eq_zero h)
  rw [List.length_drop] at this
  show s.o≤(if s.c=k then s.o else s.o+k)∧(if s.c=k then s.o else s.o+k)+(s.l.drop k).length≤s.o+s.l.length
  rw [List.length_drop]
  split <;> omega
 ·have hi:i<(s.l.drop k).length:=hi
  rw [List.length_drop] at hi
  show L s.l ((if s.c=k then s.o else s.o+k)-s.o+i)=L (s.l.drop k) i
  rw [if_neg (by omega),Nat.add_sub_cancel_left]
  unfold L
  simp only [List.getD_eq_getElem?_getD,List.getElem?_drop]
theorem zrow {q:List Nat}:∀ j,j<32→eqC q (.w8 0) (.w8 (L zer32 j)) True:=fun j hj=>⟨by
 unfold L zer32
 simp only [List.getD_eq_getElem?_getD,List.getElem?_replicate]
 split <;> rfl,trivial⟩
theorem bytes32 {l v l':Bs} {e e':Int} (h:bytesM l e 32=(v,l',e')):(e'=0→e=0∧v.length=32)∧(e'≠0→v=[]):=by
 unfold bytesM at h
 split at h
 ·simp only [Prod.mk.injEq] at h
  obtain ⟨rfl,rfl,rfl⟩:=h
  exact ⟨fun h=>absurd h (by assumption),fun _=>rfl⟩
 ·split at h
  ·simp only [Prod.mk.injEq] at h
   obtain ⟨rfl,rfl,rfl⟩:=h
   exact ⟨fun h=>absurd h (by decide),fun _=>rfl⟩
  ·simp only [Prod.mk.injEq] at h
   obtain ⟨rfl,rfl,rfl⟩:=h
   exact ⟨fun _=>⟨by omega,by rw [List.length_take]; omega⟩,fun h=>absurd rfl h⟩
theorem cp_row {q:List Nat} {f g:Nat→SC} {t:Bs} (h:t.length=32) (hg:∀ i,i<t.length→g i=.w8 (L t i)):∀ j,j<32→eqC q (updN f 0 (min t.length 32) g j) (.w8 (L t j)) True:=by
 intro j hj
 have e:updN f 0 (min t.length 32) g j=.w8 (L t j):=by
  unfold updN
  rw [if_pos (by omega),Nat.sub_zero]
  exact hg j (by omega)
 rw [e]
 exact ⟨rfl,trivial⟩
theorem end_0 {l l':Bs} {e e':Int} (h:endM l e=(l',e')) (h0:e'=0):e=0:=by
 unfold endM failM at h
 split at h
 ·split at h
  ·simp only [Prod.mk.injEq] at h
   obtain ⟨_,rfl⟩:=h
   exact h0
  ·simp only [Prod.mk.injEq] at h
   obtain ⟨_,rfl⟩:=h
   exact absurd h0 (by decide)
 ·simp only [Prod.mk.injEq] at h
  obtain ⟨_,rfl⟩:=h
  exact h0
set_option maxRecDepth 20000 in
set_option maxHeartbeats 16000000 in
theorem fn_mtake (s:Sl) (hs:s.Ok):FnR Try.prog tds 25 1 [svB s] [.c (svC 0 s)] (fun _=>True)
  (fun y hs=>∃ x e,takeMs s.l e x∧x.p.s.Ok∧y=.tup [.agg (msC 1 x),.c (.int .i64 e)]∧hs=[svB s,svB x.p.s]):=by
 refine fn_of_body tds_ok follows_ Try.func25 rfl (t:=.a (.c (svC 0 s))::anys (Try.f25.ntmps-1)) rfl (fun w r0 hr _=>?_)
 obtain ⟨x0,rfl⟩:=List.length_eq_one_iff.1 hr
 have hf:=hs.fit
 have hsm:=hs.small
 have hcp:=hs.cap
 unfold takeMs
 (repeat show _∧_;first|refine yr ?_|refine yt ?_|refine yf ?_|refine yo ?_)
 refine call_same (fn_whole s hs) [0] rfl (by (repeat first|exact trivial|refine ent1 ?_)) (by refine eqC_bts ?_; (repeat first|exact trivial|refine ent1 ?_)) (fun _ _=>trivial) ?_
 rintro y hs' ⟨rfl,rfl⟩
 have hw:(wholeM s.l).1≤s.l.length:=by
  unfold wholeM
  split
  ·exact Nat.zero_le _
  split
  ·exact Nat.zero_le _
  split
  ·exact Nat.zero_le _
  ·dsimp only; omega
 have hw4:(wholeM s.l).1≠0→4≤(wholeM s.l).1:=by
  unfold wholeM
  split
  ·exact fun h=>absurd rfl h
  split
  ·exact fun h=>absurd rfl h
  split
  ·exact fun h=>absurd rfl h
  ·dsimp only; omega
 rcases hwm:wholeM s.l with ⟨n,f⟩
 rw [hwm] at hw hw4
 clear hwm
 dsimp only at hw hw4 ⊢
 by_cases h1:f=0
 rotate_left
 ·have e1:decide (f≠0)=true:=decide_eq_true h1
  (repeat show _∧_;first|refine yr ?_|refine yt ?_|refine yf ?_|refine ya e1 ?_|refine yb e1 ?_|refine yo ?_)
  (repeat first|refine And.intro (by omega) ?_|refine And.intro (by decide) ?_|(with_reducible refine frc_parts (by first|omega|decide) ?_)|(with_reducible refine frc_bytesL (by first|omega|decide) ?_)|refine And.intro rfl ?_)
  refine ⟨.tup [.agg (msC 1 ms0),.c (.int .i64 (f))],_,⟨[0,1],⟨rfl,rfl,rfl⟩,?_⟩,ms0,f,⟨fun _=>⟨rfl,rfl⟩,fun h=>absurd h h1⟩,nil_ok,rfl,rfl⟩
  (repeat first|exact trivial|refine ent1 ?_)
  refine ⟨zrow,?_⟩
  (repeat first|exact trivial|refine ent1 ?_)
  refine ⟨zrow,?_⟩
  (repeat first|exact trivial|refine ent1 ?_)
  refine eqC_bts ?_
  (repeat first|exact trivial|refine ent1 ?_)
 have e1:decide (f≠0)=false:=decide_eq_false fun h=>h h1
 by_cases h2:n=0
 ·have e2:decide ((n:Int)=0)=true:=decide_eq_true (by omega)
  (repeat show _∧_;first|refine yr ?_|refine yt ?_|refine yf ?_|refine ya e1 ?_|refine yb e1 ?_|refine ya e2 ?_|refine yb e2 ?_|refine yo ?_)
  (repeat first|refine And.intro (by omega) ?_|refine And.intro (by decide) ?_|(with_reducible refine frc_parts (by first|omega|decide) ?_)|(with_reducible refine frc_bytesL (by first|omega|decide) ?_)|refine And.intro rfl ?_)
  refine ⟨.tup [.agg (msC 1 ms0),.c (.int .i64 (3))],_,⟨[0,1],⟨rfl,rfl,rfl⟩,?_⟩,ms0,3,⟨fun h=>absurd h1 h,fun _=>⟨fun _=>⟨rfl,rfl⟩,fun h=>absurd h2 h⟩⟩,nil_ok,rfl,rfl⟩
  (repeat first|exact trivial|refine ent1 ?_)
  refine ⟨zrow,?_⟩
  (repeat first|exact trivial|refine ent1 ?_)
  refine ⟨zrow,?_⟩
  (repeat first|exact trivial|refine ent1 ?_)
  refine eqC_bts ?_
  (repeat first|exact trivial|refine ent1 ?_)
 have e2:decide ((n:Int)=0)=false:=decide_eq_false (by omega)
 have hn4:=hw4 h2
 by_cases h3:n<s.l.length
 ·have e3:decide ((n:Int)<(s.l.length:Int))=true:=decide_eq_true (by omega)
  (repeat show _∧_;first|refine yr ?_|refine yt ?_|refine yf ?_|refine ya e1 ?_|refine yb e1 ?_|refine ya e2 ?_|refine yb e2 ?_|refine ya e3 ?_|refine yb e3 ?_|refine yo ?_)
  (repeat first|refine And.intro (by omega) ?_|refine And.intro (by decide) ?_|(with_reducible refine frc_parts (by first|omega|decide) ?_)|(with_reducible refine frc_bytesL (by first|omega|decide) ?_)|refine And.intro rfl ?_)
  refine ⟨.tup [.agg (msC 1 ms0),.c (.int .i64 (24))],_,⟨[0,1],⟨rfl,rfl,rfl⟩,?_⟩,ms0,24,⟨fun h=>absurd h1 h,fun _=>⟨fun h=>absurd h h2,fun _=>⟨fun _=>⟨rfl,rfl⟩,fun h=>absurd h3 h⟩⟩⟩,nil_ok,rfl,rfl⟩
  (repeat first|exact trivial|refine ent1 ?_)
  refine ⟨zrow,?_⟩
  (repeat first|exact trivial|refine ent1 ?_)
  refine ⟨zrow,?_⟩
  (repeat first|exact trivial|refine ent1 ?_)
  refine eqC_bts ?_
  (repeat first|exact trivial|refine ent1 ?_)
 have e3:decide ((n:Int)<(s.l.length:Int))=false:=decide_eq_false (by omega)
 have hz:s.z=false:=hs.pos (by omega)
 have hd:=drop_ok hs (k:=4) (by omega)
 have hds:=drop_sub hs (k:=4) (by omega)
 have goalP:∀ {e:Int} {x:Ms},((knownK (L s.l 0)=false→e=5∧x=ms0)∧(knownK (L s.l 0)=true→restMs (L s.l 0) (s.l.drop 4) e x))→(f≠0→e=f∧x=ms0)∧(f=0→(n=0→e=3∧x=ms0)∧(n≠0→(n<s.l.length→e=24∧x=ms0)∧(¬ n<s.l.length →
  (knownK (L s.l 0)=false→e=5∧x=ms0)∧(knownK (L s.l 0)=true→restMs (L s.l 0) (s.l.drop 4) e x)))) :=
  fun h=>⟨fun h'=>absurd h1 h',fun _=>⟨fun h=>absurd h h2,fun _=>⟨fun h=>absurd h h3,fun _=>h⟩⟩⟩
 rw [svB_row hz]
 (repeat show _∧_;first|refine yr ?_|refine yt ?_|refine yf ?_|refine ya e1 ?_|refine yb e1 ?_|refine ya e2 ?_|refine yb e2 ?_|refine ya e3 ?_|refine yb e3 ?_|refine yo ?_)
 refine frc_eq (y:=.w8 (L s.l 0)) (by rw [show Int.toNat 0+s.o=s.o+0 by omega,winF_at _ _ _ (by omega)]) ?_
 (repeat show _∧_;first|refine yr ?_|refine yt ?_|refine yf ?_|refine ya e1 ?_|refine yb e1 ?_|refine ya e2 ?_|refine yb e2 ?_|refine ya e3 ?_|refine yb e3 ?_|refine yo ?_)
 generalize hk:L s.l 0=k at goalP ⊢
 refine call_same (fn_known k) [] rfl (by (repeat first|exact trivial|refine ent1 ?_)) trivial (fun _ _=>trivial) ?_
 rintro y hs' ⟨rfl,rfl⟩
 by_cases h4:knownK k=false
 ·have e4:(!knownK k)=true:=by rw [h4]; rfl
  (repeat show _∧_;first|refine yr ?_|refine yt ?_|refine yf ?_|refine ya e1 ?_|refine yb e1 ?_|refine ya e2 ?_|refine yb e2 ?_|refine ya e3 ?_|refine yb e3 ?_|refine ya e4 ?_|refine yb e4 ?_|refine yo ?_)
  (repeat first|refine And.intro (by omega) ?_|refine And.intro (by decide) ?_|(with_reducible refine frc_parts (by first|omega|decide) ?_)|(with_reducible refine frc_bytesL (by first|omega|decide) ?_)|refine And.intro rfl ?_)
  refine ⟨.tup [.agg (msC 1 ms0),.c (.int .i64 (5))],_,⟨[0,1],⟨rfl,rfl,rfl⟩,?_⟩,ms0,5,goalP ⟨fun _=>⟨rfl,rfl⟩,fun h=>by rw [h4] at h; exact Bool.noConfusion h⟩,nil_ok,rfl,rfl⟩
  (repeat first|exact trivial|refine ent1 ?_)
  refine ⟨zrow,?_⟩
  (repeat first|exact trivial|refine ent1 ?_)
  refine ⟨zrow,?_⟩
  (repeat first|exact trivial|refine ent1 ?_)
 have h4:knownK k=true:=by simpa using h4
 have e4:(!knownK k)=false:=by rw [h4]; rfl
 have goalR:∀ {e:Int} {x:Ms},restMs k (s.l.drop 4) e x→_:=fun h=>goalP ⟨fun h'=>by rw [h4] at h'; exact Bool.noConfusion h',fun _=>h⟩
 clear goalP
 (repeat show _∧_;first|refine yr ?_|refine yt ?_|refine yf ?_|refine ya e1 ?_|refine yb e1 ?_|refine ya e2 ?_|refine yb e2 ?_|refine ya e3 ?_|refine yb e3 ?_|refine ya e4 ?_|refine yb e4 ?_|refine yo ?_)
 refine frc_eq (y:=.w8 k) (by rw [show Int.toNat 0+s.o=s.o+0 by omega,winF_at _ _ _ (by omega),hk]) ?_
 (repeat show _∧_;first|refine yr ?_|refine yt ?_|refine yf ?_|refine ya e1 ?_|refine yb e1 ?_|refine ya e2 ?_|refine yb e2 ?_|refine ya e3 ?_|refine yb e3 ?_|refine ya e4 ?_|refine yb e4 ?_|refine yo ?_)
 have hE:∀ {q:List Nat} {K:Prop},K→eqSegs q [.row s.N (winF s.o s.l.length (L s.l))] (svB (dropS s 4)) K:=by
  intro q K hK
  rw [← svB_row hz]
  exact hds.ent hK
 refine call_same (fn_vread (dropS s 4) hd) [0] rfl (by (repeat first|exact trivial|refine ent1 ?_); refine ⟨by show _=(s.l.drop 4).length; rw [List.length_drop]; rfl,rfl,?_⟩; (repeat first|exact trivial|refine ent1 ?_)) (hE (by (repeat first|exact trivial|refine ent1 ?_))) (fun _ _=>trivial) ?_
 rintro y hs' ⟨A,r,hAl,hr,rfl,rfl⟩
 have hAl:A.l=s.l.drop 4:=hAl
 by_cases h5:k=20#8
 ·have e5:decide (k≠20#8)=false:=decide_eq_false fun h=>h h5
  (repeat show _∧_;first|refine yr ?_|refine yt ?_|refine yf ?_|refine ya e5 ?_|refine yb e5 ?_|refine yo ?_)
  refine ⟨some [2,5],[],[(0,true),(1,true),(2,true),(3,false)],[4],by kernel_rfl,?_⟩
  (repeat show _∧_;first|refine yr ?_|refine yt ?_|refine yf ?_|refine ya e5 ?_|refine yb e5 ?_|refine yo ?_)
  refine call_same (fn_rbytes A r 32 hr) [4,3] rfl (by (repeat first|exact trivial|refine ent1 ?_)) (by refine eqC_btsM ?_; (repeat first|exact trivial|refine ent1 ?_)) (fun _ _=>trivial) ?_
  rintro y hs' ⟨t,r2,l2,e2',hx2,hr2,ht,rfl,rfl⟩
  (repeat show _∧_;first|refine yr ?_|refine yt ?_|refine yf ?_|refine ya e5 ?_|refine yb e5 ?_|refine yo ?_)
  refine sn_btsM rfl ht.fit (fun h=>by rw [ht.nil h]; rfl) (fun g hg=>?_)
  refine And.intro (show 0+min t.l.length 32≤32 by omega) ?_
  (repeat show _∧_;first|refine yr ?_|refine yt ?_|refine yf ?_|refine ya e5 ?_|refine yb e5 ?_|refine yo ?_)
  refine call_same (fn_rend A r2 hr2) [4,3] rfl (by (repeat first|exact trivial|refine ent1 ?_)) (by refine eqC_btsM ?_; (repeat first|exact trivial|refine ent1 ?_)) (fun _ _=>trivial) ?_
  rintro y hs' ⟨r3,l3,e3',hx3,hr3,rfl,rfl⟩
  by_cases h6:e3'=0
  rotate_left
  ·have e6:decide (e3'≠0)=true:=decide_eq_true h6
   (repeat show _∧_;first|refine yr ?_|refine yt ?_|refine yf ?_|refine ya e5 ?_|refine yb e5 ?_|refine ya e6 ?_|refine yb e6 ?_|refine yo ?_)
   (repeat first|refine And.intro (by omega) ?_|refine And.intro (by decide) ?_|(with_reducible refine frc_parts (by first|omega|decide) ?_)|(with_reducible refine frc_bytesL (by first|omega|decide) ?_)|refine And.intro rfl ?_)
   refine ⟨.tup [.agg (msC 1 ms0),.c (.int .i64 (e3'))],_,⟨[0,1],⟨rfl,rfl,rfl⟩,?_⟩,ms0,e3',goalR ⟨fun _=>by unfold lastMs; rw [show bytesM (s.l.drop 4) 0 32=(t.l,l2,e2') from hx2]; dsimp only; rw [hx3]; exact ⟨fun _=>⟨rfl,rfl⟩,fun h=>absurd h h6⟩,fun h=>absurd h5 h⟩,nil_ok,rfl,rfl⟩
   (repeat first|exact trivial|refine ent1 ?_)
   refine ⟨zrow,?_⟩
   (repeat first|exact trivial|refine ent1 ?_)
   refine ⟨zrow,?_⟩
   (repeat first|exact trivial|refine ent1 ?_)
  have e6:decide (e3'≠0)=false:=decide_eq_false fun h=>h h6
  have h7:=(bytes32 hx2).1 (end_0 hx3 h6)
  (repeat show _∧_;first|refine yr ?_|refine yt ?_|refine yf ?_|refine ya e5 ?_|refine yb e5 ?_|refine ya e6 ?_|refine yb e6 ?_|refine yo ?_)
  (repeat first|refine And.intro (by omega) ?_|refine And.intro (by decide) ?_|(with_reducible refine frc_parts (by first|omega|decide) ?_)|(with_reducible refine frc_bytesL (by first|omega|decide) ?_)|refine And.intro rfl ?_)
  refine ⟨.tup [.agg (msC 1 ⟨k,zer32,pm0,t.l⟩),.c (.int .i64 0)],_,⟨[0,1],⟨rfl,rfl,rfl⟩,?_⟩,⟨k,zer32,pm0,t.l⟩,0,?_,nil_ok,rfl,rfl⟩
  ·(repeat first|exact trivial|refine ent1 ?_)
   refine ⟨zrow,?_⟩
   (repeat first|exact trivial|refine ent1 ?_)
   refine ⟨cp_row h7.2 hg,?_⟩
   (repeat first|exact trivial|refine ent1 ?_)
  ·exact goalR ⟨fun _=>by unfold lastMs; rw [show bytesM (s.l.drop 4) 0 32=(t.l,l2,e2') from hx2]; dsimp only; rw [hx3]; exact ⟨fun h=>absurd h6 h,fun _=>⟨rfl,rfl⟩⟩,fun h=>absurd h5 h⟩
 have e5:decide (k≠20#8)=true:=decide_eq_true h5
 (repeat show _∧_;first|refine yr ?_|refine yt ?_|refine yf ?_|refine ya e5 ?_|refine yb e5 ?_|refine yo ?_)
 refine ⟨some [2,5],[],[(0,true),(1,true),(2,true),(3,false)],[4],by kernel_rfl,?_⟩
 (repeat show _∧_;first|refine yr ?_|refine yt ?_|refine yf ?_|refine ya e5 ?_|refine yb e5 ?_|refine yo ?_)
 refine call_same (fn_rbytes A r 32 hr) [4,3] rfl (by (repeat first|exact trivial|refine ent1 ?_)) (by refine eqC_btsM ?_; (repeat first|exact trivial|refine ent1 ?_)) (fun _ _=>trivial) ?_
 rintro y hs' ⟨t,r2,l2,e2',hx2,hr2,ht,rfl,rfl⟩
 (repeat show _∧_;first|refine yr ?_|refine yt ?_|refine yf ?_|refine ya e5 ?_|refine yb e5 ?_|refine yo ?_)
 refine sn_btsM rfl ht.fit (fun h=>by rw [ht.nil h]; rfl) (fun g hg=>?_)
 refine And.intro (show 0+min t.l.length 32≤32 by omega) ?_
 (repeat show _∧_;first|refine yr ?_|refine yt ?_|refine yf ?_|refine ya e5 ?_|refine yb e5 ?_|refine yo ?_)
 refine call_same (fn_rlong A r2 512 hr2 (by decide)) [4,3] rfl (by (repeat first|exact trivial|refine ent1 ?_)) (by refine eqC_btsM ?_; (repeat first|exact trivial|refine ent1 ?_)) (fun _ _=>trivial) ?_
 rintro y hs' ⟨v,r3,l3,e3',hx3,hr3,hv,rfl,rfl⟩
 (repeat show _∧_;first|refine yr ?_|refine yt ?_|refine yf ?_|refine ya e5 ?_|refine yb e5 ?_|refine yo ?_)
 refine call_same (fn_rerr A r3 hr3) [4,3] rfl (by (repeat first|exact trivial|refine ent1 ?_)) (by refine eqC_btsM ?_; (repeat first|exact trivial|refine ent1 ?_)) (fun _ _=>trivial) ?_
 rintro y hs' ⟨rfl,rfl⟩
 have hR:∀ {e:Int} {x:Ms},((e3'≠0→e=e3'∧x=ms0)∧(e3'=0→∃ e4 p,takeP v.l e4 p∧p.s.Ok∧(e4≠0→e=e4∧x=ms0)∧(e4=0→lastMs k t.l p l3 e x)))→restMs k (s.l.drop 4) e x:=by
  intro e x h
  refine ⟨fun h'=>absurd h' h5,fun _=>?_⟩
  rw [show bytesM (s.l.drop 4) 0 32=(t.l,l2,e2') from hx2]
  dsimp only
  rw [hx3]
  exact h
 by_cases h6:e3'=0
 rotate_left
 ·have e6:decide (e3'≠0)=true:=decide_eq_true h6
  (repeat show _∧_;first|refine yr ?_|refine yt ?_|refine yf ?_|refine ya e5 ?_|refine yb e5 ?_|refine ya e6 ?_|refine yb e6 ?_|refine yo ?_)
  (repeat first|refine And.intro (by omega) ?_|refine And.intro (by decide) ?_|(with_reducible refine frc_parts (by first|omega|decide) ?_)|(with_reducible refine frc_bytesL (by first|omega|decide) ?_)|refine And.intro rfl ?_)
  refine ⟨.tup [.agg (msC 1 ms0),.c (.int .i64 (e3'))],_,⟨[0,1],⟨rfl,rfl,rfl⟩,?_⟩,ms0,e3',goalR (hR ⟨fun _=>⟨rfl,rfl⟩,fun h=>absurd h h6⟩),nil_ok,rfl,rfl⟩
  (repeat first|exact trivial|refine ent1 ?_)
  refine ⟨zrow,?_⟩
  (repeat first|exact trivial|refine ent1 ?_)
  refine ⟨zrow,?_⟩
  (repeat first|exact trivial|refine ent1 ?_)
 have e6:decide (e3'≠0)=false:=decide_eq_false fun h=>h h6
 have h7:e2'=0:=Classical.byContradiction fun hc=>(longM_len hx3).2 hc h6
 have h8:=((bytes32 hx2).1 h7).2
 (repeat show _∧_;first|refine yr ?_|refine yt ?_|refine yf ?_|refine ya e5 ?_|refine yb e5 ?_|refine ya e6 ?_|refine yb e6 ?_|refine yo ?_)
 refine call_same (fn_ptake v hv) [6] rfl (by (repeat first|exact trivial|refine ent1 ?_)) (by refine eqC_btsM ?_; (repeat first|exact trivial|refine ent1 ?_)) (fun _ _=>trivial) ?_
 rintro y hs' ⟨p,e4,hp4,hpo,rfl,rfl⟩
 by_cases h9:e4=0
 rotate_left
 ·have e9:decide (e4≠0)=true:=decide_eq_true h9
  (repeat show _∧_;first|refine yr ?_|refine yt ?_|refine yf ?_|refine ya e5 ?_|refine yb e5 ?_|refine ya e6 ?_|refine yb e6 ?_|refine ya e9 ?_|refine yb e9 ?_|refine yo ?_)
  (repeat first|refine And.intro (by omega) ?_|refine And.intro (by decide) ?_|(with_reducible refine frc_parts (by first|omega|decide) ?_)|(with_reducible refine frc_bytesL (by first|omega|decide) ?_)|refine And.intro rfl ?_)
  refine ⟨.tup [.agg (msC 1 ms0),.c (.int .i64 (e4))],_,⟨[0,1],⟨rfl,rfl,rfl⟩,?_⟩,ms0,e4,goalR (hR ⟨fun h=>absurd h6 h,fun _=>⟨e4,p,hp4,hpo,fun _=>⟨rfl,rfl⟩,fun h=>absurd h h9⟩⟩),nil_ok,rfl,rfl⟩
  (repeat first|exact trivial|refine ent1 ?_)
  refine ⟨zrow,?_⟩
  (repeat first|exact trivial|refine ent1 ?_)
  refine ⟨zrow,?_⟩
  (repeat first|exact trivial|refine ent1 ?_)
 have e9:decide (e4≠0)=false:=decide_eq_false fun h=>h h9
 (repeat show _∧_;first|refine yr ?_|refine yt ?_|refine yf ?_|refine ya e5 ?_|refine yb e5 ?_|refine ya e6 ?_|refine yb e6 ?_|refine ya e9 ?_|refine yb e9 ?_|refine yo ?_)
 refine ⟨some [2,8],[],[(0,true),(1,true),(2,true),(3,false)],[4],by kernel_rfl,?_⟩
 (repeat show _∧_;first|refine yr ?_|refine yt ?_|refine yf ?_|refine ya e5 ?_|refine yb e5 ?_|refine ya e6 ?_|refine yb e6 ?_|refine ya e9 ?_|refine yb e9 ?_|refine yo ?_)
 refine call_same (fn_rbytes A r3 32 hr3) [4,3] rfl (by (repeat first|exact trivial|refine ent1 ?_)) (by refine eqC_btsM ?_; (repeat first|exact trivial|refine ent1 ?_)) (fun _ _=>trivial) ?_
 rintro y hs' ⟨m,r5,l5,e5',hx5,hr5,hm,rfl,rfl⟩
 (repeat show _∧_;first|refine yr ?_|refine yt ?_|refine yf ?_|refine ya e5 ?_|refine yb e5 ?_|refine ya e6 ?_|refine yb e6 ?_|refine ya e9 ?_|refine yb e9 ?_|refine yo ?_)
 refine sn_btsM rfl hm.fit (fun h=>by rw [hm.nil h]; rfl) (fun g2 hg2=>?_)
 refine And.intro (show 0+min m.l.length 32≤32 by omega) ?_
 (repeat show _∧_;first|refine yr ?_|refine yt ?_|refine yf ?_|refine ya e5 ?_|refine yb e5 ?_|refine ya e6 ?_|refine yb e6 ?_|refine ya e9 ?_|refine yb e9 ?_|refine yo ?_)
 refine call_same (fn_rend A r5 hr5) [4,3] rfl (by (repeat first|exact trivial|refine ent1 ?_)) (by refine eqC_btsM ?_; (repeat first|exact trivial|refine ent1 ?_)) (fun _ _=>trivial) ?_
 rintro y hs' ⟨r6,l6,e6',hx6,hr6,rfl,rfl⟩
 rw [h6] at hx5
 have hL:∀ {e:Int} {x:Ms},((e6'≠0→e=e6'∧x=ms0)∧(e6'=0→e=0∧x=⟨k,t.l,p,m.l⟩))→restMs k (s.l.drop 4) e x:=by
  intro e x h
  refine hR ⟨fun h=>absurd h6 h,fun _=>⟨e4,p,hp4,hpo,fun h=>absurd h9 h,fun _=>?_⟩⟩
  unfold lastMs
  rw [hx5]
  dsimp only
  rw [hx6]
  exact h
 by_cases h10:e6'=0
 rotate_left
 ·have e10:decide (e6'≠0)=true:=decide_eq_true h10
  (repeat show _∧_;first|refine yr ?_|refine yt ?_|refine yf ?_|refine ya e5 ?_|refine yb e5 ?_|refine ya e6 ?_|refine yb e6 ?_|refine ya e9 ?_|refine yb e9 ?_|refine ya e10 ?_|refine yb e10 ?_|refine yo ?_)
  (repeat first|refine And.intro (by omega) ?_|refine And.intro (by decide) ?_|(with_reducible refine frc_parts (by first|omega|decide) ?_)|(with_reducible refine frc_bytesL (by first|omega|decide) ?_)|refine And.intro rfl ?_)
  refine ⟨.tup [.agg (msC 1 ms0),.c (.int .i64 (e6'))],_,⟨[0,1],⟨rfl,rfl,rfl⟩,?_⟩,ms0,e6',goalR (hL ⟨fun _=>⟨rfl,rfl⟩,fun h=>absurd h h10⟩),nil_ok,rfl,rfl⟩
  (repeat first|exact trivial|refine ent1 ?_)
  refine ⟨zrow,?_⟩
  (repeat first|exact trivial|refine ent1 ?_)
  refine ⟨zrow,?_⟩
  (repeat first|exact trivial|refine ent1 ?_)
 have e10:decide (e6'≠0)=false:=decide_eq_false fun h=>h h10
 have h11:=(bytes32 hx5).1 (end_0 hx6 h10)
 (repeat show _∧_;first|refine yr ?_|refine yt ?_|refine yf ?_|refine ya e5 ?_|refine yb e5 ?_|refine ya e6 ?_|refine yb e6 ?_|refine ya e9 ?_|refine yb e9 ?_|refine ya e10 ?_|refine yb e10 ?_|refine yo ?_)
 (repeat first|refine And.intro (by omega) ?_|refine And.intro (by decide) ?_|(with_reducible refine frc_parts (by first|omega|decide) ?_)|(with_reducible refine frc_bytesL (by first|omega|decide) ?_)|refine And.intro rfl ?_)
 refine ⟨.tup [.agg (msC 1 ⟨k,t.l,p,m.l⟩),.c (.int .i64 0)],_,⟨[0,7],⟨rfl,rfl,rfl⟩,?_⟩,⟨k,t.l,p,m.l⟩,0,goalR (hL ⟨fun h=>absurd h10 h,fun _=>⟨rfl,rfl⟩⟩),hpo,rfl,rfl⟩
 (repeat first|exact trivial|refine ent1 ?_)
 refine ⟨cp_row h8 hg,?_⟩
 (repeat first|exact trivial|refine ent1 ?_)
 refine ⟨cp_row h11.2 hg2,?_⟩
 (repeat first|exact trivial|refine ent1 ?_)
 refine eqC_btsM ?_
 (repeat first|exact trivial|refine ent1 ?_)
end Sx
end
section
namespace Vi
open Sha Sx
theorem head_L (k:BitVec 8) (n:Nat) (R:Bs):L (headMs k n++R) 0=k∧L (headMs k n++R) 1=BitVec.ofNat 8 (n / 65536)∧L (headMs k n++R) 2=BitVec.ofNat 8 (n / 256)∧L (headMs k n++R) 3=BitVec.ofNat 8 n:=⟨rfl,rfl,rfl,rfl⟩
theorem head_lenH (k:BitVec 8) {n:Nat} (hn:n≤512) (R:Bs):lenH (headMs k n++R)=n:=by
 obtain ⟨_,h1,h2,h3⟩:=head_L k n R
 unfold lenH
 rw [h1,h2,h3]
 simp only [BitVec.toNat_ofNat]
 omega
theorem putMs_len (x:Ms):(putMs x).length=4+(bodyMs x).length:=by
 unfold putMs
 rw [List.length_append]; rfl
theorem whole_put {x:Ms} (hx:x.Ok) (h:errMs x=0) (more:Bs):wholeM (putMs x++more)=((putMs x).length,0):=by
 have hb:=bodyMs_len hx h
 have hl:=putMs_len x
 have hH:lenH (putMs x++more)=(bodyMs x).length:=by
  unfold putMs
  rw [List.append_assoc]
  exact head_lenH _ (by omega) _
 unfold wholeM
 rw [hH,if_neg (by rw [List.length_append]; omega),if_neg (by omega),if_neg (by rw [List.length_append]; omega),hl]
theorem bytes_put {a r:Bs} (h:a.length=32):bytesM (a++r) 0 32=(a,r,0):=by
 unfold bytesM
 rw [if_neg (fun h=>h rfl),if_neg (by rw [List.length_append]; omega)]
 have h2:Int.toNat 32=a.length:=h.symm
 rw [h2]
 simp
def sameMs (x y:Ms):Prop:=x.k=y.k∧x.r=y.r∧sameP x.p y.p∧x.m=y.m
def bare (x:Ms):Prop:=x.k=20#8→x.r=zer32∧sameP pm0 x.p
theorem last_put {k:BitVec 8} {r m:Bs} {p:Pm} {e:Int} {y:Ms} (hm:m.length=32) (h:lastMs k r p m e y):e=0∧y=⟨k,r,p,m⟩:=by
 unfold lastMs at h
 have:=bytes_put (r:=[]) hm
 rw [List.append_nil] at this
 rw [this] at h
 exact h.2 rfl
theorem err_known {x:Ms} (h:errMs x=0):knownK x.k=true∧(x.k≠20#8→checkP x.p=0):=by
 unfold errMs at h
 cases hk:knownK x.k with
 | false=>rw [if_pos hk] at h; exact absurd h (by decide)
 | true =>
  rw [if_neg (by rw [hk]; decide)] at h
  refine ⟨rfl,fun h2=>?_⟩
  rw [if_neg h2] at h
  exact h
theorem take_putMs {x y:Ms} {e:Int} (hx:x.Ok) (h:errMs x=0) (hb:bare x) (ht:takeMs (putMs x) e y):e=0∧sameMs y x:=by
 obtain ⟨hk,hc⟩:=err_known h
 have hw:=whole_put hx h []
 rw [List.append_nil] at hw
 have hl:=putMs_len x
 unfold takeMs at ht
 rw [hw] at ht
 have h0:L (putMs x) 0=x.k:=rfl
 obtain ⟨-,ht⟩:=ht
 obtain ⟨-,ht⟩:=ht rfl
 have ht:=(ht (by omega)).2 (by omega)
 have ht:=ht.2 (by rw [h0]; exact hk)
 rw [h0,show (putMs x).drop 4=bodyMs x from rfl] at ht
 obtain ⟨t1,t2⟩:=ht
 by_cases h20:x.k=20#8
 ·have ht:=t1 h20
  rw [show bodyMs x=x.m by unfold bodyMs; rw [if_pos h20]] at ht
  obtain ⟨rfl,rfl⟩:=last_put hx.m ht
  exact ⟨rfl,rfl,(hb h20).1.symm,(hb h20).2,rfl⟩
 ·have ht:=t2 h20
  have hc:=hc h20
  have hbl:=bodyMs_len hx h
  have hB:bodyMs x=x.r++(longL (putP x.p)++x.m):=by unfold bodyMs; rw [if_neg h20,List.append_assoc]
  have hpl:(putP x.p).length≤512:=by
   rw [hB] at hbl
   unfold longL at hbl
   simp only [List.length_append] at hbl
   omega
  rw [hB,bytes_put hx.r] at ht
  dsimp only at ht
  rw [lg_put hpl (by decide)] at ht
  dsimp only at ht
  obtain ⟨e3,p,hp,-,-,h4⟩:=ht.2 rfl
  have hq:=take_put (p:=x.p) (q:=p) (e:=e3) hc hp
  obtain ⟨rfl,hs⟩:=hq
  obtain ⟨rfl,rfl⟩:=last_put hx.m (h4 rfl)
  exact ⟨rfl,rfl,rfl,hs,rfl⟩
end Vi
end
section
open Go.RowKit

theorem run_enter {P : Program} {g : FuncId} (h : ((P.funcs[g]?).any fun fn => fn.body.isSome && fn.name != "runtime.NumGoroutine") = true) (vs : Array Value) (w : World) : (callFunc g vs).run P w = .ok (.enter g vs) w := by
 obtain ⟨fn, hfn, hb⟩ : ∃ fn, P.funcs[g]? = some fn ∧ (fn.body.isSome && fn.name != "runtime.NumGoroutine") = true := by
  cases e:P.funcs[g]? with
  | none=>rw [e] at h; cases h
  | some fn=>rw [e] at h; exact ⟨fn,rfl,h⟩
 simp only [Bool.and_eq_true,bne_iff_ne] at hb
 have h1 : (fn.name == "runtime.NumGoroutine") = false := by simpa using hb.2
 have h2:fn.body.isNone=false:=by
  cases e:fn.body with
  | none=>rw [e] at hb; exact absurd hb.1 (by simp)
  | some b=>rfl
 simp only [callFunc,Sem.run_bind,run_program,hfn,Result.andThen_ok,h1,h2,Bool.false_eq_true,if_false]
 rfl
theorem disable (w:World):(callFunc 86 #[]).run Try.prog w=.ok (.value (.tuple #[])) w:=run_call_mark0 Try.func86 (by kernel_rfl) (by kernel_rfl) (by kernel_rfl) .disable (by kernel_rfl) w
theorem enable (w:World):(callFunc 88 #[]).run Try.prog w=.ok (.value (.tuple #[])) w:=run_call_mark0 Try.func88 (by kernel_rfl) (by kernel_rfl) (by kernel_rfl) .enable (by kernel_rfl) w
theorem acquire (a:Addr) (w:World):(callFunc 89 #[.pointer (some a)]).run Try.prog w=.ok (.value (.tuple #[])) w:=run_call_marked Try.func89 (by kernel_rfl) (by kernel_rfl) (by kernel_rfl) .acquire (by kernel_rfl) a w
theorem releaseMerge (a:Addr) (w:World):(callFunc 91 #[.pointer (some a)]).run Try.prog w=.ok (.value (.tuple #[])) w:=run_call_marked Try.func91 (by kernel_rfl) (by kernel_rfl) (by kernel_rfl) .releaseMerge (by kernel_rfl) a w
theorem store_deferred (a:Addr) (x:Value) (u:FrameMode) (w:World) (hc:w.cell? a=some x) (hz:w.frozen? a=false) :
  CallsD Try.prog 80 #[.pointer (some a),.bool true] u w fun e u' w'=>u'=u∧(e=.returned (.tuple #[])∧w'=w.drew.setCell a (.int .u32 1)):=by
 have hc':w.drew.cell? a=some x:=by go_simp
 have hz':w.drew.frozen? a=false:=by go_simp
 have hst:=run_call_store (P:=Try.prog) Try.func84 (by kernel_rfl) (by kernel_rfl) (by kernel_rfl) (by kernel_rfl) (k:=.u32) (y:=1) hc' hz'
 go_enter_d Try.func80,Try.ntmps80
 go_wp2
 go_region_calls
 all_goals (go_end0; exact ⟨rfl,rfl⟩)
set_option maxRecDepth 100000 in
theorem unlock_deferred (a:Addr) (u:FrameMode) (w:World) (hc:w.cell? a=some (.int .i32 1)) (hz:w.frozen? a=false) :
  CallsD Try.prog 79 #[.pointer (some a)] u w fun e u' w'=>u'=u∧(e=.returned (.tuple #[])∧w'=w.setCell a (.int .i32 0)):=by
 have hd:=disable
 have he:=enable
 have hr:=releaseMerge
 have hadd:=run_call_add (P:=Try.prog) Try.func92 (by kernel_rfl) (by kernel_rfl) (by kernel_rfl) .i32 (by kernel_rfl) (y:=-1) (s:=0) hc hz (by simp [go_sem]; rfl)
 have hcv:=run_convert_to_unsafe (P:=Try.prog) (src:=150) (dst:=154) Try.underlying150 Try.underlying154 (by kernel_rfl) hc
 go_enter_d Try.func79,Try.ntmps79
 go_wp2
 go_end0
 exact ⟨rfl,rfl⟩
set_option maxRecDepth 100000 in
theorem lock_free (a:Addr) (w:World) (hc:w.cell? a=some (.int .i32 0)) (hz:w.frozen? a=false) :
  Calls Try.prog 78 #[.pointer (some a)] w fun e w'=>e=.returned (.tuple #[])∧w'=w.setCell a (.int .i32 1):=by
 have hd:=disable
 have he:=enable
 have ha:=acquire
 have hcas:=run_call_cas_hit (P:=Try.prog) Try.func87 (by kernel_rfl) (by kernel_rfl) (by kernel_rfl) .i32 (by kernel_rfl) (y:=1) hc hz
 have hc':(w.setCell a (.int .i32 1)).cell? a=some (.int .i32 1):=World.cell?_setCell_same w a _ hc
 have hcv:=run_convert_to_unsafe (P:=Try.prog) (src:=150) (dst:=154) Try.underlying150 Try.underlying154 (by kernel_rfl) hc'
 go_enter Try.func78,Try.ntmps78
 go_wp2
 go_end0
 exact ⟨rfl,rfl⟩
theorem bool_load (a:Addr) (x:Int) (w:World) (hc:w.cell? a=some (.int .u32 x)) :
  Calls Try.prog 69 #[.pointer (some a)] w fun e w'=>e=.returned (.bool (x != 0))∧w'=w:=by
 have hl:=run_call_load (P:=Try.prog) Try.func77 (by kernel_rfl) (by kernel_rfl) (by kernel_rfl) .u32 (by kernel_rfl) (w:=w) (a:=a) (x:=x) hc
 go_enter Try.func69,Try.ntmps69
 go_wp2
 refine bodyPost_ret (results_tmp rfl _ _ _) rfl ?_
 exact ⟨rfl,rfl⟩
set_option maxRecDepth 100000 in
set_option maxHeartbeats 1600000 in
/-- What is handed to Do is called, the lock held; then the Once is done. -/
theorem slow_any (b off : Nat) (fv : Go.Fn) (x y : Array Value) (g : FuncId) (vs : Array Value) (R : World → Prop) (w : World) (hfv : fv = .func g) (hgb : ((Try.prog.funcs[g]?).any fun fn => fn.body.isSome && fn.name != "runtime.NumGoroutine") = true) (hvs : x ++ y = vs)
  (h0:w.cell? ⟨b,off,none⟩=some (.int .u32 0)) (h1:w.cell? ⟨b,off+1,none⟩=some (.int .i32 0))
  (f0:w.frozen? ⟨b,off,none⟩=false) (f1:w.frozen? ⟨b,off+1,none⟩=false)
  (hg:Calls Try.prog g vs (w.setCell ⟨b,off+1,none⟩ (.int .i32 1)) fun e w1=>e=.returned (.tuple #[])∧R w1)
  (hR:∀ w1,R w1→w1.cell? ⟨b,off,none⟩=some (.int .u32 0)∧w1.cell? ⟨b,off+1,none⟩=some (.int .i32 1)∧w1.frozen? ⟨b,off,none⟩=false∧w1.frozen? ⟨b,off+1,none⟩=false) :
  Calls Try.prog 70 #[.pointer (some ⟨b,off,none⟩),.func fv x y] w fun e w'=>e=.returned (.tuple #[]) ∧
   ∃ w1,R w1∧w'=(w1.drew.setCell ⟨b,off,none⟩ (.int .u32 1)).setCell ⟨b,off+1,none⟩ (.int .i32 0):=by
 subst hfv
 subst hvs
 have hl:=run_call_load (P:=Try.prog) Try.func77 (by kernel_rfl) (by kernel_rfl) (by kernel_rfl) .u32 (by kernel_rfl) (w:=w.setCell ⟨b,off+1,none⟩ (.int .i32 1)) (a:=⟨b,off,none⟩) (x:=0) ((World.cell?_setCell_other _ ⟨b,off+1,none⟩ ⟨b,off,none⟩ _ (by simp)).trans h0)
 have hnot:∀ (x:Bool) (w:World),(Op.unary .not (.bool x)).run Try.prog w=.ok (.bool (!x)) w:=fun _ _=>rfl
 go_enter_defers Try.func70,Try.ntmps70
 go_wp2_with (go_at_call 78; refine (lock_free ⟨b,off+1,none⟩ _ (by go_simp) (by go_simp)).mono ?_; rintro e w' ⟨rfl,rfl⟩)
 go_at_call 69
 refine (bool_load ⟨b,off,none⟩ 0 _ ((World.cell?_setCell_other _ ⟨b,off+1,none⟩ ⟨b,off,none⟩ _ (by simp)).trans h0)).mono ?_
 rintro e w' ⟨rfl,rfl⟩
 go_wp2
 rw [run_enter hgb,Oper.upon_enter]
 refine hg.mono ?_
 rintro e w1 ⟨rfl,hw1⟩
 obtain ⟨r0,r1,r2,r3⟩:=hR w1 hw1
 dsimp only
 go_wp2
 refine leaves_cons (f:=80) (args:=#[.pointer (some ⟨b,off,none⟩),.bool true]) (by simp) (by simp [go_sem]) ?_
 refine (store_deferred ⟨b,off,none⟩ (.int .u32 0) .returning _ r0 r2).mono ?_
 rintro e u' w'' ⟨rfl,rfl,rfl⟩
 refine leaves_cons (f:=79) (args:=#[.pointer (some ⟨b,off+1,none⟩)]) (by simp [settle]) (by simp [go_sem]) ?_
 refine (unlock_deferred ⟨b,off+1,none⟩ _ _ ?_ (by simp [r3])).mono ?_
 ·refine (World.cell?_setCell_other _ ⟨b,off,none⟩ ⟨b,off+1,none⟩ _ (by simp)).trans ?_
  rw [World.cell?_drew]
  exact r1
 rintro e u' w'' ⟨rfl,rfl,rfl⟩
 simp [Leaves,settle,results,Try.results70]
 exact ⟨w1,hw1,rfl⟩
end
section
open Go.RowKit

set_option maxRecDepth 100000 in
theorem once_slow (b off:Nat) (v:Value) (w:World) (Post:Ending→World→Prop) (h0:w.cell? ⟨b,off,none⟩=some (.int .u32 0)) (h:Calls Try.prog 70 #[.pointer (some ⟨b,off,none⟩),v] w Post)
  (hp:∀ e w',Post e w'→e=.returned (.tuple #[])):Calls Try.prog 64 #[.pointer (some ⟨b,off,none⟩),v] w Post:=by
 have hnot:∀ (x:Bool) (w:World),(Op.unary .not (.bool x)).run Try.prog w=.ok (.bool (!x)) w:=fun _ _=>rfl
 go_enter Try.func64,Try.ntmps64
 go_wp2_with fail
 refine (bool_load ⟨b,off,none⟩ 0 _ h0).mono ?_
 rintro e w' ⟨rfl,rfl⟩
 go_wp2_with fail
 refine h.mono ?_
 intro e w1 hw1
 obtain rfl:=hp e w1 hw1
 dsimp only
 go_wp2_with fail
 go_end0
 exact hw1
set_option maxRecDepth 100000 in
theorem once_done (b off:Nat) (v:Value) (w:World) (h0:w.cell? ⟨b,off,none⟩=some (.int .u32 1)) :
  Calls Try.prog 64 #[.pointer (some ⟨b,off,none⟩),v] w fun e w'=>e=.returned (.tuple #[])∧w'=w:=by
 have hnot:∀ (x:Bool) (w:World),(Op.unary .not (.bool x)).run Try.prog w=.ok (.bool (!x)) w:=fun _ _=>rfl
 go_enter Try.func64,Try.ntmps64
 go_wp2_with fail
 go_at_call 69
 refine (bool_load ⟨b,off,none⟩ 1 _ h0).mono ?_
 rintro e w' ⟨rfl,rfl⟩
 go_wp2_with fail
 go_end0
 exact ⟨rfl,rfl⟩
end
section
namespace Sx
open Go.RowKit

section
variable {C : Cx} {r : Rho} {w : World} {B f : Nat}
theorem put_first {x y:SC} {l:List Seg} {v:Value} (ok:HeapOk C [.one x::l] r w) (hr:r[0]?=some (B,f)) (hv:y.Is r v) (h0:C.ro=0):HeapOk C [.one y::l] r (w.setCell ⟨B,f,none⟩ v):=by
 obtain ⟨l',e,hp,hd⟩:=putS_spec (new:=[.one y]) (l:=.one x::l) (b:=0) (o:=0) (k:=fun l'=>l'=.one y::l) rfl
 subst e
 exact ok.put hr (i:=0) rfl (by simp) hp (vs:=[v]) ⟨rfl,fun j z e=>by
  cases j with
  | zero=>simp [flat] at e; subst e; exact ⟨v,rfl,hv⟩
  | succ j=>simp [flat] at e⟩ (by omega) hd
theorem put_second {x y z:SC} {l:List Seg} {v:Value} (ok:HeapOk C [.one z::.one x::l] r w) (hr:r[0]?=some (B,f)) (hv:y.Is r v) (h0:C.ro=0):HeapOk C [.one z::.one y::l] r (w.setCell ⟨B,f+1,none⟩ v):=by
 obtain ⟨l',e,hp,hd⟩:=putS_spec (new:=[.one y]) (l:=.one z::.one x::l) (b:=1) (o:=0) (k:=fun l'=>l'=.one z::.one y::l) rfl
 subst e
 exact ok.put hr (i:=0) rfl (by simp) hp (vs:=[v]) ⟨rfl,fun j z e=>by
  cases j with
  | zero=>simp [flat] at e; subst e; exact ⟨v,rfl,hv⟩
  | succ j=>simp [flat] at e⟩ (by omega) hd
end
theorem HeapOk.rebase {P:Program} {T:List (Nat × TD)} {w w1:World} {h h0 h1:List (List Seg)} {r:Rho} (hp:∀ (i:Nat) (W:World) (ms:List Nat),h[i]?≠some [.past W ms]) (ok:HeapOk (cx0 P T w r 0 h0) h r w1):HeapOk (cx0 P T w1 r 0 h1) h r w1 :=
 ⟨Ext.refl _ _,RLe.refl _,Nat.zero_le _,ok.len,ok.chunks,ok.lt,fun i B f ho h=>.inl (mem_drop.2 ⟨i,f,ho,h⟩),fun i B f ho=>absurd ho (Nat.not_lt_zero i),fun i ch ho=>absurd ho (Nat.not_lt_zero i),ok.apart,ok.maps,fun i W ms e=>absurd e (hp i W ms)⟩
theorem HeapOk.onto {P:Program} {T:List (Nat × TD)} {w w1 w2:World} {h h0 h1:List (List Seg)} {r:Rho} (e:Ext (r.map (·.1)) w w1) (hp:∀ (i:Nat) (W:World) (ms:List Nat),h[i]?≠some [.past W ms]) (ok:HeapOk (cx0 P T w1 r 0 h1) h r w2):HeapOk (cx0 P T w r 0 h0) h r w2 :=
 ⟨e.trans ok.ext,ok.agree,Nat.zero_le _,ok.len,ok.chunks,ok.lt,fun i B f ho h=>.inl (mem_drop.2 ⟨i,f,ho,h⟩),fun i B f ho=>absurd ho (Nat.not_lt_zero i),fun i ch ho=>absurd ho (Nat.not_lt_zero i),ok.apart,ok.maps,fun i W ms e=>absurd e (hp i W ms)⟩
theorem no_past (x:SC) (y:Seg) (l:List Seg):∀ (i:Nat) (W:World) (ms:List Nat),([.one x::y::l]:List (List Seg))[i]?≠some [.past W ms]:=fun i W ms e=>by
 cases i with
 | zero=>simp at e
 | succ i=>simp at e
theorem is_at {C:Cx} {h:List (List Seg)} {r:Rho} {w:World} {B f:Nat} {l:List Seg} {x:SC} {j:Nat} (ok:HeapOk C h r w) (hr:r[0]?=some (B,f)) (hh:h[0]?=some l) (hx:(flat l)[j]?=some x) (h0:C.ro=0) :
  ∃ v,w.cell? ⟨B,f+j,none⟩=some v∧x.Is r v∧w.frozen? ⟨B,f+j,none⟩=false:=by
 obtain ⟨v,e1,e2,e3⟩:=ok.chunks 0 l B f hh hr j x hx
 exact ⟨v,e1,e2,(e3 (by rw [h0]; rfl)).fr e1⟩
theorem fn_once {g : FuncId} (hgb : ((Try.prog.funcs[g]?).any fun fn => fn.body.isSome && fn.name != "runtime.NumGoroutine") = true) {rest rest' : List Seg}
  (hF:Go.Proofs.Ytgmbfaefadefjaa.Sx.Fn Try.prog tds g [.one (.w32 0)::.one (.int .i32 1)::rest] [.c (.p 0 0 0)] (fun _=>True) (fun x hs=>x=.tup []∧hs=[.one (.w32 0)::.one (.int .i32 1)::rest'])) :
  Go.Proofs.Ytgmbfaefadefjaa.Sx.Fn Try.prog tds 64 [.one (.w32 0)::.one (.int .i32 0)::rest] [.c (.p 0 0 0),.c (.clo g 0 0 0)] (fun _=>True) (fun x hs=>x=.tup []∧hs=[.one (.w32 1)::.one (.int .i32 0)::rest']):=by
 intro w r0 vs ok ha _
 obtain ⟨⟨B,f⟩,rfl⟩:=List.length_eq_one_iff.1 ok.len
 obtain ⟨hl,ha⟩:=ha
 obtain ⟨v0,v1,rfl⟩:=len2' hl.symm
 obtain ⟨u,hu,B0,f0,hr0,rfl⟩:=ha 0 _ rfl
 obtain ⟨u,hu1,B1,f1,hr1,rfl⟩:=ha 1 _ rfl
 simp at hu hu1 hr0 hr1
 obtain ⟨rfl,rfl⟩:=hr0
 obtain ⟨rfl,rfl⟩:=hr1
 subst hu
 subst hu1
 obtain ⟨_,c0,rfl,z0⟩:=is_at ok rfl rfl (j:=0) (x:=.w32 0) rfl rfl
 obtain ⟨_,c1,rfl,z1⟩:=is_at ok rfl rfl (j:=1) (x:=.int .i32 0) rfl rfl
 have ok1:=put_second (y:=.int .i32 1) ok rfl (v:=.int .i32 1) rfl rfl
 have hg:=hF (w.setCell ⟨B,f+1,none⟩ (.int .i32 1)) [(B,f)] [.pointer (some ⟨B,f,none⟩)] (ok1.rebase (no_past _ _ _)) ⟨rfl,fun j x e=>by
  cases j with
  | zero=>simp at e; subst e; exact ⟨_,rfl,B,f,rfl,rfl⟩
  | succ j=>simp at e⟩ trivial
 let R:World→Prop:=fun w2=>HeapOk (cx0 Try.prog tds (w.setCell ⟨B,f+1,none⟩ (.int .i32 1)) [(B,f)] 0 [.one (.w32 0)::.one (.int .i32 1)::rest]) [.one (.w32 0)::.one (.int .i32 1)::rest'] [(B,f)] w2
 have hg2:Calls Try.prog g #[.pointer (some ⟨B,f,none⟩)] (w.setCell ⟨B,f+1,none⟩ (.int .i32 1)) fun e w2=>e=.returned (.tuple #[])∧R w2:=by
  refine hg.mono ?_
  rintro e w2 ⟨v,x,hs,r',rfl,hx,hok,rfl,rfl⟩
  obtain ⟨vs,rfl,hl,_⟩:=hx
  obtain rfl:vs=[]:=List.eq_nil_of_length_eq_zero hl.symm
  obtain ⟨y,rfl⟩:=List.length_eq_one_iff.1 hok.len
  have:=hok.agree 0 (B,f) rfl
  simp at this
  subst this
  exact ⟨rfl,hok⟩
 have hR:∀ w2,R w2→w2.cell? ⟨B,f,none⟩=some (.int .u32 0)∧w2.cell? ⟨B,f+1,none⟩=some (.int .i32 1)∧w2.frozen? ⟨B,f,none⟩=false∧w2.frozen? ⟨B,f+1,none⟩=false:=by
  intro w2 h
  obtain ⟨_,d0,rfl,y0⟩:=is_at h rfl rfl (j:=0) (x:=.w32 0) rfl rfl
  obtain ⟨_,d1,rfl,y1⟩:=is_at h rfl rfl (j:=1) (x:=.int .i32 1) rfl rfl
  exact ⟨d0,d1,y0,y1⟩
 refine (once_slow B f (.func (.func g) #[.pointer (some ⟨B,f,none⟩)] #[]) w _ c0 (slow_any B f (.func g) #[.pointer (some ⟨B,f,none⟩)] #[] g #[.pointer (some ⟨B,f,none⟩)] R w rfl hgb rfl c0 c1 z0 z1 hg2 hR) (fun e w' h=>h.1)).mono ?_
 rintro e w' ⟨rfl,w2,hw2,rfl⟩
 have k1:=put_first (y:=.w32 1) hw2.drew rfl (v:=.int .u32 1) rfl rfl
 have k2:=put_second (y:=.int .i32 0) k1 rfl (v:=.int .i32 0) rfl rfl
 exact ⟨.tuple #[],.tup [],_,[(B,f)],rfl,⟨[],rfl,rfl,fun j x e=>by simp at e⟩,HeapOk.onto ok1.ext (no_past _ _ _) k2,rfl,rfl⟩
theorem fn_once_done {rest:List Seg} {g:FuncId} :
  Go.Proofs.Ytgmbfaefadefjaa.Sx.Fn Try.prog tds 64 [.one (.w32 1)::rest] [.c (.p 0 0 0),.c (.clo g 0 0 0)] (fun _=>True) (fun x hs=>x=.tup []∧hs=[.one (.w32 1)::rest]):=by
 intro w r0 vs ok ha _
 obtain ⟨⟨B,f⟩,rfl⟩:=List.length_eq_one_iff.1 ok.len
 obtain ⟨hl,ha⟩:=ha
 obtain ⟨v0,v1,rfl⟩:=len2' hl.symm
 obtain ⟨u,hu,B0,f0,hr0,rfl⟩:=ha 0 _ rfl
 simp at hu hr0
 obtain ⟨rfl,rfl⟩:=hr0
 subst hu
 obtain ⟨_,c0,rfl,z0⟩:=is_at ok rfl rfl (j:=0) (x:=.w32 1) rfl rfl
 refine (once_done B f v1 w c0).mono ?_
 rintro e w' ⟨rfl,rfl⟩
 exact ⟨.tuple #[],.tup [],_,[(B,f)],rfl,⟨[],rfl,rfl,fun j x e=>by simp at e⟩,ok,rfl,rfl⟩
end Sx
end
section
namespace Aes

def twice (a:BitVec 8):BitVec 8:=if a &&& 128#8=0#8 then a <<< 1 else a <<< 1 ^^^ 27#8
def timesS (b:BitVec 8):Nat→BitVec 8 × BitVec 8→BitVec 8 × BitVec 8
 | 0,s=>s
 | k+1,s=>let s:=timesS b k s; (if (b >>> k) &&& 1#8=1#8 then s.1 ^^^ s.2 else s.1,twice s.2)
def times (a b:BitVec 8):BitVec 8:=(timesS b 8 (0#8,a)).1
def invS:Nat→BitVec 8 × BitVec 8→BitVec 8 × BitVec 8
 | 0,s=>s
 | k+1,s=>let s:=invS k s; (if (254 >>> k) % 2=1 then times s.1 s.2 else s.1,times s.2 s.2)
def inverse (a:BitVec 8):BitVec 8:=(invS 8 (1#8,a)).1
def rot8 (x:BitVec 8) (k:Nat):BitVec 8:=(x <<< k) ||| (x >>> (8-k))
def boxS (i:BitVec 8):Nat→BitVec 8
 | 0=>i ^^^ 99#8
 | k+1=>boxS i k ^^^ rot8 i ((k+1) % 8)
def box (a:BitVec 8):BitVec 8:=boxS (inverse a) 4
/-! The document's product. -/
/-! The document's block. -/
/-! The program's round keys. -/
end Aes
end
section
namespace Sx
open Aes

end Sx
end
section
namespace Sha

def mul64 (x y:BitVec 64):BitVec 64 × BitVec 64 :=
 let x0:=x &&& 4294967295#64
 let x1:=x >>> 32
 let y0:=y &&& 4294967295#64
 let y1:=y >>> 32
 let t:=x1*y0+(x0*y0) >>> 32
 let w1:=t &&& 4294967295#64
 let w2:=t >>> 32
 let w1:=w1+x0*y1
 (x1*y1+w2+w1 >>> 32,x*y)
def sqFits (x n:BitVec 64):Bool:=decide ((mul64 x x).1<n) || (decide ((mul64 x x).1=n) && decide ((mul64 x x).2=0#64))
def cuTop (x:BitVec 64):BitVec 64:=(mul64 x x).1*x+(mul64 (mul64 x x).2 x).1
def cuFits (x n:BitVec 64):Bool:=decide (cuTop x<n <<< 32) || (decide (cuTop x=n <<< 32) && decide ((mul64 (mul64 x x).2 x).2=0#64))
def rootS (F:BitVec 64→BitVec 64→Bool) (n:BitVec 64):Nat→BitVec 64
 | 0=>0#64
 | k+1=>if F (rootS F n k ||| (1#64 <<< (34-k))) n then rootS F n k ||| (1#64 <<< (34-k)) else rootS F n k
def root (F:BitVec 64→BitVec 64→Bool) (n:BitVec 64):BitVec 64:=rootS F n 35
def noDiv (n d:Nat):Prop:=∀ e,2≤e→e<d→n % e≠0
def isP (n:Nat):Bool:=(List.range 20).all fun d=>decide (d<2) || decide (n<d*d) || !(decide (n % d=0))
def cnt:Nat→Nat
 | 0=>0
 | k+1=>cnt k+if isP (k+2) then 1 else 0
def stepsS (s:Nat→BitVec 32):Nat→Nat→BitVec 32
 | 0,i=>s i
 | k+1,i=>if isP (k+2) && decide (i=cnt k) then (root cuFits (BitVec.ofNat 64 (k+2))).setWidth 32 else stepsS s k i
def firstS (s:Nat→BitVec 32):Nat→Nat→BitVec 32
 | 0,i=>s i
 | k+1,i=>if isP (k+2) && decide (cnt k<8) && decide (i=cnt k) then (root sqFits (BitVec.ofNat 64 (k+2))).setWidth 32 else firstS s k i
def stepsL:List Nat:=[0x428a2f98,0x71374491,0xb5c0fbcf,0xe9b5dba5,0x3956c25b,0x59f111f1,0x923f82a4,0xab1c5ed5,
 0xd807aa98,0x12835b01,0x243185be,0x550c7dc3,0x72be5d74,0x80deb1fe,0x9bdc06a7,0xc19bf174,
 0xe49b69c1,0xefbe4786,0x0fc19dc6,0x240ca1cc,0x2de92c6f,0x4a7484aa,0x5cb0a9dc,0x76f988da,
 0x983e5152,0xa831c66d,0xb00327c8,0xbf597fc7,0xc6e00bf3,0xd5a79147,0x06ca6351,0x14292967,
 0x27b70a85,0x2e1b2138,0x4d2c6dfc,0x53380d13,0x650a7354,0x766a0abb,0x81c2c92e,0x92722c85,
 0xa2bfe8a1,0xa81a664b,0xc24b8b70,0xc76c51a3,0xd192e819,0xd6990624,0xf40e3585,0x106aa070,
 0x19a4c116,0x1e376c08,0x2748774c,0x34b0bcb5,0x391c0cb3,0x4ed8aa4a,0x5b9cca4f,0x682e6ff3,
 0x748f82ee,0x78a5636f,0x84c87814,0x8cc70208,0x90befffa,0xa4506ceb,0xbef9a3f7,0xc67178f2]
def firstL:List Nat:=[0x6a09e667,0xbb67ae85,0x3c6ef372,0xa54ff53a,0x510e527f,0x9b05688c,0x1f83d9ab,0x5be0cd19]
def steps (i:Nat):BitVec 32:=BitVec.ofNat 32 (stepsL.getD i 0)
def first (i:Nat):BitVec 32:=BitVec.ofNat 32 (firstL.getD i 0)
theorem cnt_mono (k:Nat):∀ d,cnt k≤cnt (k+d)
 | 0=>Nat.le_refl _
 | d+1=>Nat.le_trans (cnt_mono k d) (by rw [← Nat.add_assoc]; simp only [cnt]; omega)
theorem cnt_310:cnt 310=64:=by decide +kernel
theorem cnt_309:cnt 309=63:=by decide +kernel
theorem cnt_end {k:Nat} (h:cnt k=64) (hk:k≤310):k=310:=by
 rcases Nat.lt_or_ge k 310 with h1|h1
 ·have:=cnt_mono k (309-k)
  rw [show k+(309-k)=309 by omega,cnt_309] at this
  omega
 ·omega
theorem toN {a:Nat} (h:a<18446744073709551616):(BitVec.ofNat 64 a).toNat=a:=by
 rw [BitVec.toNat_ofNat]; exact Nat.mod_eq_of_lt h
theorem sq_le {e n:Nat} (he:e<65536) (hn:n<65536):(BitVec.ofNat 64 e*BitVec.ofNat 64 e≤BitVec.ofNat 64 n) ↔ e*e≤n:=by
 have h1:e*e<65536*65536:=Nat.mul_lt_mul'' he he
 rw [BitVec.le_def,BitVec.toNat_mul,toN (by omega),toN (by omega),Nat.mod_eq_of_lt (by omega)]
theorem rem_iff {n e:Nat} (hn:n<65536) (he:e<65536):(BitVec.ofNat 64 n % BitVec.ofNat 64 e=0#64) ↔ n % e=0:=by
 constructor
 ·intro h
  have:=congrArg BitVec.toNat h
  rw [BitVec.toNat_umod,toN (by omega),toN (by omega)] at this
  exact this
 ·intro h
  apply BitVec.eq_of_toNat_eq
  rw [BitVec.toNat_umod,toN (by omega),toN (by omega),h]
  rfl
theorem ne_zero {e:Nat} (h1:0<e) (h:e<65536):BitVec.ofNat 64 e≠0#64:=by
 intro hc
 have:=congrArg BitVec.toNat hc
 rw [toN (by omega)] at this
 simp at this
 omega
theorem ofN_succ (n:Nat):BitVec.ofNat 64 n+1#64=BitVec.ofNat 64 (n+1):=by
 rw [BitVec.ofNat_add]
theorem firstS_no (s:Nat→BitVec 32) {k:Nat} (h:isP (k+2)=false):firstS s (k+1)=firstS s k:=by
 funext i; simp [firstS,h]
theorem stepsS_no (s:Nat→BitVec 32) {k:Nat} (h:isP (k+2)=false):stepsS s (k+1)=stepsS s k:=by
 funext i; simp [stepsS,h]
theorem cnt_no {k:Nat} (h:isP (k+2)=false):cnt (k+1)=cnt k:=by simp [cnt,h]
theorem cnt_yes {k:Nat} (h:isP (k+2)=true):cnt (k+1)=cnt k+1:=by simp [cnt,h]
theorem firstS_yes (s:Nat→BitVec 32) {k:Nat} (h:isP (k+2)=true) (h8:cnt k<8) (i:Nat):firstS s (k+1) i=if i=cnt k then (root sqFits (BitVec.ofNat 64 (k+2))).setWidth 32 else firstS s k i:=by
 simp [firstS,h,h8]
theorem firstS_late (s:Nat→BitVec 32) {k:Nat} (h8:¬ cnt k<8):firstS s (k+1)=firstS s k:=by
 funext i; simp [firstS,h8]
theorem stepsS_yes (s:Nat→BitVec 32) {k:Nat} (h:isP (k+2)=true) (i:Nat):stepsS s (k+1) i=if i=cnt k then (root cuFits (BitVec.ofNat 64 (k+2))).setWidth 32 else stepsS s k i:=by
 simp [stepsS,h]
theorem cnt_lt {k:Nat} (h:cnt k<64):k<310:=by
 rcases Nat.lt_or_ge k 310 with h1|h1
 ·exact h1
 ·have:=cnt_mono 310 (k-310)
  rw [show 310+(k-310)=k by omega,cnt_310] at this
  omega
theorem stepsS_low (s:Nat→BitVec 32):∀ k i,stepsS s k i=if i<cnt k then stepsS (fun _=>0#32) k i else s i
 | 0,i=>by simp [stepsS,cnt]
 | k+1,i=>by
  by_cases hp:isP (k+2)=true
  ·have hc:cnt (k+1)=cnt k+1:=by simp [cnt,hp]
   simp only [stepsS,hp,hc]
   rw [stepsS_low s k i]
   by_cases hi:i=cnt k
   ·simp [hi]
   ·by_cases h1:i<cnt k
    ·have h2:i<cnt k+1:=by omega
     simp [hi,h1,h2]
    ·have h2:¬ i<cnt k+1:=by omega
     simp [hi,h1,h2]
  ·have hp:isP (k+2)=false:=by simpa using hp
   have hc:cnt (k+1)=cnt k:=by simp [cnt,hp]
   simp only [stepsS,hp,hc]
   rw [stepsS_low s k i]
   simp
theorem firstS_low (s:Nat→BitVec 32):∀ k i,firstS s k i=if i<cnt k∧i<8 then firstS (fun _=>0#32) k i else s i
 | 0,i=>by simp [firstS,cnt]
 | k+1,i=>by
  by_cases hp:isP (k+2)=true
  ·have hc:cnt (k+1)=cnt k+1:=by simp [cnt,hp]
   simp only [firstS,hp,hc]
   rw [firstS_low s k i]
   by_cases hi:i=cnt k
   ·subst hi
    by_cases h8:cnt k<8
    ·simp [h8]
    ·simp [h8]
   ·by_cases h1:i<cnt k
    ·have h2:i<cnt k+1:=by omega
     simp [hi,h1,h2]
    ·have h2:¬ i<cnt k+1:=by omega
     simp [hi,h1,h2]
  ·have hp:isP (k+2)=false:=by simpa using hp
   have hc:cnt (k+1)=cnt k:=by simp [cnt,hp]
   simp only [firstS,hp,hc]
   rw [firstS_low s k i]
   simp
set_option maxRecDepth 100000 in
theorem steps_eq (s:Nat→BitVec 32) (i:Nat) (hi:i<64):stepsS s 310 i=steps i:=by
 rw [stepsS_low,cnt_310,if_pos hi]
 exact (by decide +kernel:∀ i,i<64→stepsS (fun _=>0#32) 310 i=steps i) i hi
set_option maxRecDepth 100000 in
theorem first_eq (s:Nat→BitVec 32) (i:Nat) (hi:i<8):firstS s 310 i=first i:=by
 rw [firstS_low,cnt_310,if_pos ⟨by omega,hi⟩]
 exact (by decide +kernel:∀ i,i<8→firstS (fun _=>0#32) 310 i=first i) i hi
theorem isP_of {n d:Nat} (h:noDiv n d) (hd:n<d*d) (hd2:2≤d):isP n=true:=by
 unfold isP
 rw [List.all_eq_true]
 intro e he
 rw [Bool.or_eq_true,Bool.or_eq_true]
 by_cases h2:e<2
 ·exact .inl (.inl (decide_eq_true h2))
 ·by_cases h3:e<d
  ·refine .inr ?_
   have:=h e (by omega) h3
   simpa using this
  ·refine .inl (.inr (decide_eq_true ?_))
   have:d*d≤e*e:=Nat.mul_le_mul (by omega) (by omega)
   omega
theorem not_isP {n d:Nat} (hd2:2≤d) (hd:d*d≤n) (h20:d<20) (h:n % d=0):isP n=false:=by
 cases e:isP n with
 | false=>rfl
 | true =>
  unfold isP at e
  rw [List.all_eq_true] at e
  have:=e d (List.mem_range.2 h20)
  rw [Bool.or_eq_true,Bool.or_eq_true] at this
  rcases this with (h1|h1)|h1
  ·have:=of_decide_eq_true h1; omega
  ·have:=of_decide_eq_true h1; omega
  ·simp [h] at h1
end Sha
end
section
namespace Sx
open Sha

set_option maxRecDepth 20000 in
theorem fn_mul64 (x y:BitVec 64):Fn Try.prog tds 81 [] [.c (.w64 x),.c (.w64 y)] (fun _=>True) (fun v hs=>v=.tup [.c (.w64 (mul64 x y).1),.c (.w64 (mul64 x y).2)]∧hs=[]):=by
 refine fn_of_body tds_ok follows_ Try.func81 rfl (t:=.a (.c (.w64 x))::.a (.c (.w64 y))::anys 49) rfl (fun w r0 hr _=>?_)
 obtain rfl:r0=[]:=List.eq_nil_of_length_eq_zero hr
 exact ⟨.tup [.c (.w64 (mul64 x y).1),.c (.w64 (mul64 x y).2)],[],⟨[],⟨rfl,rfl,rfl⟩,rfl,rfl,trivial⟩,rfl,rfl⟩
theorem fn_mul64' {x y hi lo:BitVec 64} (h:mul64 x y=(hi,lo)):Fn Try.prog tds 81 [] [.c (.w64 x),.c (.w64 y)] (fun _=>True) (fun v hs=>v=.tup [.c (.w64 hi),.c (.w64 lo)]∧hs=[]):=by
 have:=fn_mul64 x y
 rw [h] at this
 exact this
theorem fn_sqFits (x n:BitVec 64):Fn Try.prog tds 72 [] [.c (.w64 x),.c (.w64 n)] (fun _=>True) (fun v hs=>v=.a (.c (.bool (sqFits x n)))∧hs=[]):=by
 refine fn_of_body tds_ok follows_ Try.func72 rfl (t:=.a (.c (.w64 x))::.a (.c (.w64 n))::anys 23) rfl (fun w r0 hr _=>?_)
 obtain rfl:r0=[]:=List.eq_nil_of_length_eq_zero hr
 obtain ⟨hi,lo,hm⟩:∃ hi lo,mul64 x x=(hi,lo):=⟨_,_,rfl⟩
 refine ⟨by kernel_rfl,call_same (fn_mul64' hm) [] rfl ⟨rfl,rfl,trivial⟩ trivial (fun _ _=>trivial) ?_⟩
 rintro v hs ⟨rfl,rfl⟩
 have hres:sqFits x n=(decide (hi<n) || (decide (hi=n) && decide (lo=0#64))):=by unfold sqFits; rw [hm]
 rw [hres]
 cases e1:decide (hi<n) <;> cases e2:decide (hi=n) <;> cases e3:decide (lo=0#64) <;> (repeat first|refine ⟨fun _=>?_,fun h=>absurd h (by rw [e1]; decide)⟩|refine ⟨fun h=>absurd h (by rw [e1]; decide),fun _=>?_⟩|refine ⟨fun _=>?_,fun h=>absurd h (by rw [e2]; decide)⟩|refine ⟨fun h=>absurd h (by rw [e2]; decide),fun _=>?_⟩|refine ⟨fun _=>?_,fun h=>absurd h (by rw [e3]; decide)⟩|refine ⟨fun h=>absurd h (by rw [e3]; decide),fun _=>?_⟩|refine ⟨fun _=>?_,fun h=>Bool.noConfusion h⟩|refine ⟨fun h=>Bool.noConfusion h,fun _=>?_⟩) <;>
  exact ⟨.a (.c (.bool _)),[],⟨[],⟨rfl,rfl,rfl⟩,by first|(rw [e1]; done)|(rw [e2]; done)|(rw [e3]; done)|(rw [e1]; rfl)|(rw [e2]; rfl)|(rw [e3]; rfl)|rfl,trivial⟩,rfl,rfl⟩
set_option maxRecDepth 20000 in
theorem fn_cuFits (x n:BitVec 64):Fn Try.prog tds 73 [] [.c (.w64 x),.c (.w64 n)] (fun _=>True) (fun v hs=>v=.a (.c (.bool (cuFits x n)))∧hs=[]):=by
 refine fn_of_body tds_ok follows_ Try.func73 rfl (t:=.a (.c (.w64 x))::.a (.c (.w64 n))::anys 39) rfl (fun w r0 hr _=>?_)
 obtain rfl:r0=[]:=List.eq_nil_of_length_eq_zero hr
 obtain ⟨hi,lo,hm⟩:∃ hi lo,mul64 x x=(hi,lo):=⟨_,_,rfl⟩
 obtain ⟨ov,re,hm2⟩:∃ ov re,mul64 lo x=(ov,re):=⟨_,_,rfl⟩
 refine ⟨by kernel_rfl,call_same (fn_mul64' hm) [] rfl ⟨rfl,rfl,trivial⟩ trivial (fun _ _=>trivial) ?_⟩
 rintro v hs ⟨rfl,rfl⟩
 refine ⟨by kernel_rfl,call_same (fn_mul64' hm2) [] rfl ⟨rfl,rfl,trivial⟩ trivial (fun _ _=>trivial) ?_⟩
 rintro v hs ⟨rfl,rfl⟩
 have hres:cuFits x n=(decide (hi*x+ov<n <<< 32) || (decide (hi*x+ov=n <<< 32) && decide (re=0#64))):=by unfold cuFits cuTop; rw [hm]; simp only; rw [hm2]
 rw [hres]
 cases e1:decide (hi*x+ov<n <<< 32) <;> cases e2:decide (hi*x+ov=n <<< 32) <;> cases e3:decide (re=0#64) <;> (repeat first|refine ⟨fun _=>?_,fun h=>absurd h (by rw [e1]; decide)⟩|refine ⟨fun h=>absurd h (by rw [e1]; decide),fun _=>?_⟩|refine ⟨fun _=>?_,fun h=>absurd h (by rw [e2]; decide)⟩|refine ⟨fun h=>absurd h (by rw [e2]; decide),fun _=>?_⟩|refine ⟨fun _=>?_,fun h=>absurd h (by rw [e3]; decide)⟩|refine ⟨fun h=>absurd h (by rw [e3]; decide),fun _=>?_⟩|refine ⟨fun _=>?_,fun h=>Bool.noConfusion h⟩|refine ⟨fun h=>Bool.noConfusion h,fun _=>?_⟩) <;>
  exact ⟨.a (.c (.bool _)),[],⟨[],⟨rfl,rfl,rfl⟩,by first|(rw [e1]; done)|(rw [e2]; done)|(rw [e3]; done)|(rw [e1]; rfl)|(rw [e2]; rfl)|(rw [e3]; rfl)|rfl,trivial⟩,rfl,rfl⟩
theorem fn_root {g:FuncId} {F:BitVec 64→BitVec 64→Bool} (hg:callable Try.prog g=true) (hF:∀ x n,Fn Try.prog tds g [] [.c (.w64 x),.c (.w64 n)] (fun _=>True) (fun v hs=>v=.a (.c (.bool (F x n)))∧hs=[])) (n:BitVec 64) :
  Fn Try.prog tds 71 [] [.c (.w64 n),.c (.fnv (.func g) #[] #[])] (fun _=>True) (fun v hs=>v=.a (.c (.w64 (root F n)))∧hs=[]):=by
 refine fn_of_body tds_ok follows_ Try.func71 rfl (t:=.a (.c (.w64 n))::.a (.c (.fnv (.func g) #[] #[]))::anys 21) rfl (fun w r0 hr _=>?_)
 obtain rfl:r0=[]:=List.eq_nil_of_length_eq_zero hr
 refine .inl ⟨Nat,fun k=>⟨.a (.c (.w64 n))::.a (.c (.fnv (.func g) #[] #[]))::.any::.any::.any::.a (.c (.w64 (rootS F n k)))::.a (.c (.int .i64 (34-(k:Int))))::anys 16,[]⟩,fun k=>k≤35,fun k=>35-k,⟨0,[],⟨⟨rfl,rfl,rfl⟩,rfl,rfl,rfl,rfl,trivial⟩,by omega⟩,fun k hk=>⟨fun h=>?_,fun h=>?_⟩⟩
 ·have hlt:34-(k:Int) ≥ 0:=of_decide_eq_true h
  have e:(BitVec.ofInt 64 (34-(k:Int))).toNat=34-k:=by
   rw [show 34-(k:Int)=((34-k:Nat):Int) by omega]
   exact cast64 (by omega)
  refine ⟨hg,call_same (hF _ _) [] rfl ⟨rfl,rfl,trivial⟩ trivial (fun _ _=>trivial) ?_⟩
  rintro v hs ⟨rfl,rfl⟩
  rw [e]
  refine ⟨fun h2=>?_,fun h2=>?_⟩
  all_goals
   refine ⟨⟨by omega,by omega⟩,k+1,[],⟨⟨rfl,rfl,rfl⟩,rfl,rfl,?_,?_,trivial⟩,by dsimp only; omega,by dsimp only; omega⟩
   ·first|exact (if_pos h2).symm|exact (if_neg (by rw [h2]; decide)).symm
   ·show 34-(k:Int)-1=34-((k+1:Nat):Int)
    omega
 ·obtain rfl:k=35:=by have:¬ 34-(k:Int) ≥ 0:=of_decide_eq_false h; have hk:k≤35:=hk; omega
  exact ⟨.a (.c (.w64 (root F n))),[],⟨[],⟨rfl,rfl,rfl⟩,rfl,trivial⟩,rfl,rfl⟩
abbrev shaT (d:BitVec 32) (m:Int) (f s:Nat→BitVec 32):List Seg:=[.one (.w32 d),.one (.int .i32 m),.one (.w32 0),.row 8 (fun i=>.w32 (f i)),.row 64 (fun i=>.w32 (s i))]
theorem eqC_w32 {q:List Nat} {x:SC} {b:BitVec 32} (h:x=.w32 b):eqC q x (.w32 b) True:=by subst h; exact ⟨rfl,trivial⟩
theorem fn_sfill (d:BitVec 32) (m:Int) (f s:Nat→BitVec 32):Fn Try.prog tds 65 [shaT d m f s] [.c (.p 0 0 0)] (fun _=>True) (fun x hs=>x=.tup []∧hs=[shaT d m first steps]):=by
 refine fn_of_body tds_ok follows_ Try.func65 rfl (t:=.a (.c (.p 0 0 0))::anys 39) rfl (fun w r0 hr _=>?_)
 obtain ⟨x0,rfl⟩:=List.length_eq_one_iff.1 hr
 refine .inl ⟨Nat,fun k=>⟨.a (.c (.p 0 0 0))::.any::.a (.c (.int .i64 (cnt k:Int)))::.a (.c (.w64 (BitVec.ofNat 64 (k+2))))::anys 36,[shaT d m (firstS f k) (stepsS s k)]⟩,fun k=>cnt k≤64∧k≤310,fun k=>310-k,⟨0,[0],⟨⟨rfl,rfl,rfl⟩,?_⟩,by decide⟩,fun k hk=>⟨fun h=>?_,fun h=>?_⟩⟩
 ·(repeat first|exact trivial|refine ⟨rfl,?_⟩|refine ⟨fun _ _=>⟨rfl,trivial⟩,?_⟩|refine ⟨by omega,?_⟩)
 ·have hlt:(cnt k:Int)<64:=of_decide_eq_true h
  have hk310:=cnt_lt (show cnt k<64 by omega)
  refine .inl ⟨Nat,fun e=>⟨.a (.c (.p 0 0 0))::.any::.a (.c (.int .i64 (cnt k:Int)))::.a (.c (.w64 (BitVec.ofNat 64 (k+2))))::.a (.c (.w64 (BitVec.ofNat 64 e)))::anys 35,[shaT d m (firstS f k) (stepsS s k)]⟩,fun e=>2≤e∧e<19∧noDiv (k+2) e,fun e=>20-e,⟨2,[0],⟨⟨rfl,rfl,rfl⟩,?_⟩,by omega,by omega,fun e h1 h2=>by omega⟩,fun e he=>⟨fun h=>?_,fun h=>?_⟩⟩
  ·(repeat first|exact trivial|refine ⟨rfl,?_⟩|refine ⟨fun _ _=>⟨rfl,trivial⟩,?_⟩|refine ⟨by omega,?_⟩)
  ·have hle:=(sq_le (by omega) (by omega)).1 (of_decide_eq_true h)
   obtain ⟨he2,he19,hnd⟩:=he
   have he18:e<18:=by
    rcases Nat.lt_or_ge e 18 with h1|h1
    ·exact h1
    ·have:=Nat.mul_le_mul h1 h1; omega
   refine ⟨ne_zero (by omega) (by omega),fun h2=>?_,fun h2=>?_⟩
   ·have hp:=not_isP he2 hle (by omega) ((rem_iff (by omega) (by omega)).1 (of_decide_eq_true h2))
    refine ⟨k+1,[0],⟨⟨rfl,rfl,rfl⟩,?_⟩,⟨by rw [cnt_no hp]; omega,by omega⟩,by dsimp only; omega⟩
    refine ⟨rfl,by rw [cnt_no hp],ofN_succ (k+2),?_⟩
    (repeat first|exact trivial|refine ⟨rfl,?_⟩|refine ⟨fun _ _=>⟨rfl,trivial⟩,?_⟩|refine ⟨by omega,?_⟩)
    exact ⟨fun j hj=>eqC_w32 (by rw [firstS_no f hp]),rfl,fun j hj=>eqC_w32 (by rw [stepsS_no s hp]),trivial⟩
   ·have hr:(k+2) % e≠0:=fun hc=>of_decide_eq_false h2 ((rem_iff (by omega) (by omega)).2 hc)
    refine ⟨e+1,[0],⟨⟨rfl,rfl,rfl⟩,?_⟩,⟨by omega,by omega,fun d h3 h4=>?_⟩,by dsimp only; omega⟩
    ·refine ⟨rfl,rfl,rfl,ofN_succ e,?_⟩
     (repeat first|exact trivial|refine ⟨rfl,?_⟩|refine ⟨fun _ _=>⟨rfl,trivial⟩,?_⟩|refine ⟨by omega,?_⟩)
    ·by_cases hde:d=e
     ·subst hde; exact hr
     ·exact hnd d h3 (by omega)
  ·obtain ⟨he2,he19,hnd⟩:=he
   have hgt:k+2<e*e:=by
    have:=mt (sq_le (e:=e) (n:=k+2) (by omega) (by omega)).2 (of_decide_eq_false h)
    omega
   have hp:=isP_of hnd hgt he2
   have last:∀ (g:Nat→SC) (v:SC),(v=.w32 ((root cuFits (BitVec.ofNat 64 (k+2))).setWidth 32))→(∀ j,g j=.w32 (stepsS s k j))→∀ j,eqC [0] (upd g (cnt k) v j) (.w32 (stepsS s (k+1) j)) True:=fun g v hv hg j=>eqC_w32 (by
    unfold upd
    rw [stepsS_yes s hp j]
    by_cases hj:j=cnt k
    ·rw [if_pos hj,if_pos hj,hv]
    ·rw [if_neg hj,if_neg hj,hg])
   have e0:(cnt k:Int).toNat+0=cnt k:=by omega
   refine ⟨fun h8=>?_,fun h8=>?_⟩
   ·have h8':cnt k<8:=by have:=of_decide_eq_true h8; omega
    refine ⟨some [0],[],[(0,true),(1,true),(2,true),(5,true),(6,true),(3,false),(4,true),(7,true)],[8],by kernel_rfl,?_⟩
    refine ⟨by kernel_rfl,call_same (fn_root (by kernel_rfl) fn_sqFits (BitVec.ofNat 64 (k+2))) [] rfl ⟨rfl,rfl,trivial⟩ trivial (fun _ _=>trivial) ?_⟩
    rintro v hs ⟨rfl,rfl⟩
    refine ⟨⟨by omega,by omega⟩,by omega,rfl,?_⟩
    refine ⟨some [0],[],[(0,true),(1,true),(2,true),(5,true),(6,true),(3,false),(4,true),(7,true)],[8],by kernel_rfl,?_⟩
    refine ⟨by kernel_rfl,call_same (fn_root (by kernel_rfl) fn_cuFits (BitVec.ofNat 64 (k+2))) [] rfl ⟨rfl,rfl,trivial⟩ trivial (fun _ _=>trivial) ?_⟩
    rintro v hs ⟨rfl,rfl⟩
    refine ⟨⟨by omega,by omega⟩,by omega,rfl,⟨by omega,by omega⟩,?_⟩
    refine ⟨k+1,[0],⟨⟨rfl,rfl,rfl⟩,?_⟩,⟨by rw [cnt_yes hp]; omega,by omega⟩,by dsimp only; omega⟩
    refine ⟨rfl,by rw [cnt_yes hp]; rfl,ofN_succ (k+2),?_⟩
    (repeat first|exact trivial|refine ⟨rfl,?_⟩|refine ⟨fun _ _=>⟨rfl,trivial⟩,?_⟩|refine ⟨by omega,?_⟩)
    refine ⟨fun j hj=>?_,rfl,fun j hj=>?_,trivial⟩
    ·rw [e0]
     refine eqC_w32 ?_
     unfold upd
     rw [firstS_yes f hp h8' j]
     by_cases hj:j=cnt k
     ·rw [if_pos hj,if_pos hj]
     ·rw [if_neg hj,if_neg hj]
    ·rw [e0]
     exact last _ _ rfl (fun _=>rfl) j
   ·have h8':¬ cnt k<8:=by have:=of_decide_eq_false h8; omega
    refine ⟨some [0],[],[(0,true),(1,true),(2,true),(5,true),(6,true),(3,false),(4,true),(7,true)],[8],by kernel_rfl,?_⟩
    refine ⟨by kernel_rfl,call_same (fn_root (by kernel_rfl) fn_cuFits (BitVec.ofNat 64 (k+2))) [] rfl ⟨rfl,rfl,trivial⟩ trivial (fun _ _=>trivial) ?_⟩
    rintro v hs ⟨rfl,rfl⟩
    refine ⟨⟨by omega,by omega⟩,by omega,rfl,⟨by omega,by omega⟩,?_⟩
    refine ⟨k+1,[0],⟨⟨rfl,rfl,rfl⟩,?_⟩,⟨by rw [cnt_yes hp]; omega,by omega⟩,by dsimp only; omega⟩
    refine ⟨rfl,by rw [cnt_yes hp]; rfl,ofN_succ (k+2),?_⟩
    (repeat first|exact trivial|refine ⟨rfl,?_⟩|refine ⟨fun _ _=>⟨rfl,trivial⟩,?_⟩|refine ⟨by omega,?_⟩)
    refine ⟨fun j hj=>eqC_w32 (by rw [firstS_late f h8']),rfl,fun j hj=>?_,trivial⟩
    rw [e0]
    exact last _ _ rfl (fun _=>rfl) j
 ·have h64:cnt k=64:=by have:¬ (cnt k:Int)<64:=of_decide_eq_false h; have:=hk.1; omega
  have hk':=cnt_end h64 hk.2
  have hF:∀ j,j<8→firstS f k j=first j:=fun j hj=>by rw [hk']; exact first_eq f j hj
  have hS:∀ j,j<64→stepsS s k j=steps j:=fun j hj=>by rw [hk']; exact steps_eq s j hj
  refine ⟨.tup [],[shaT d m first steps],⟨[0],⟨rfl,rfl,rfl⟩,?_⟩,rfl,rfl⟩
  (repeat first|exact trivial|refine ⟨rfl,?_⟩|refine ⟨fun _ _=>⟨rfl,trivial⟩,?_⟩|refine ⟨by omega,?_⟩)
  refine ⟨fun j hj=>eqC_w32 (congrArg SC.w32 (hF j hj)),rfl,fun j hj=>eqC_w32 (congrArg SC.w32 (hS j hj)),trivial⟩
end Sx
end
section
namespace Sha

def ror (x:BitVec 32) (n:Nat):BitVec 32:=x <<< (32-n) ||| x >>> n
def w0 (P:Nat→BitVec 8) (i:Nat):BitVec 32 :=
 (P (4*i)).setWidth 32 <<< 24 ||| (P (4*i+1)).setWidth 32 <<< 16 ||| (P (4*i+2)).setWidth 32 <<< 8 ||| (P (4*i+3)).setWidth 32
def sig0 (x:BitVec 32):BitVec 32:=ror x 7 ^^^ ror x 18 ^^^ x >>> 3
def sig1 (y:BitVec 32):BitVec 32:=ror y 17 ^^^ ror y 19 ^^^ y >>> 10
def wS (P:Nat→BitVec 8):Nat→Nat→BitVec 32
 | 0,i=>if i<16 then w0 P i else 0#32
 | k+1,i=>if i=16+k then wS P k k+sig0 (wS P k (k+1))+wS P k (k+9)+sig1 (wS P k (k+14)) else wS P k i
def one (v:Nat→BitVec 32) (kw w:BitVec 32):BitVec 32 :=
 v 7+(ror (v 4) 6 ^^^ ror (v 4) 11 ^^^ ror (v 4) 25)+((v 4 &&& v 5) ^^^ (~~~(v 4) &&& v 6))+kw+w
def two (v:Nat→BitVec 32):BitVec 32 :=
 (ror (v 0) 2 ^^^ ror (v 0) 13 ^^^ ror (v 0) 22)+((v 0 &&& v 1) ^^^ (v 0 &&& v 2) ^^^ (v 1 &&& v 2))
def next (v:Nat→BitVec 32) (kw w:BitVec 32):Nat→BitVec 32
 | 0=>one v kw w+two v
 | 4=>v 3+one v kw w
 | i+1=>v i
def vR (W:Nat→BitVec 32) (v:Nat→BitVec 32):Nat→Nat→BitVec 32
 | 0=>v
 | k+1=>next (vR W v k) (steps k) (W k)
def compress (V:Nat→BitVec 32) (P:Nat→BitVec 8) (i:Nat):BitVec 32:=V i+vR (wS P 48) V 64 i
end Sha
end
section
namespace Sx
open Sha

theorem ror_amt:∀ n:Nat,n<32→0<n→((BitVec.ofInt 64 (-(n:Int))) &&& 31#64).toNat=32-n∧(32#64-((BitVec.ofInt 64 (-(n:Int))) &&& 31#64)).toNat=n:=by decide +kernel
set_option maxRecDepth 20000 in
theorem fn_rot32 (x:BitVec 32) (n:Nat) (h:n<32) (h0:0<n):Fn Try.prog tds 74 [] [.c (.w32 x),.c (.int .i64 (-(n:Int)))] (fun _=>True) (fun v hs=>v=.a (.c (.w32 (ror x n)))∧hs=[]):=by
 refine fn_of_body tds_ok follows_ Try.func74 rfl (t:=.a (.c (.w32 x))::.a (.c (.int .i64 (-(n:Int))))::anys (Try.f74.ntmps-2)) rfl (fun w r0 hr _=>?_)
 obtain rfl:r0=[]:=List.eq_nil_of_length_eq_zero hr
 obtain ⟨e1,e2⟩:=ror_amt n h h0
 refine ⟨.a (.c (.w32 (ror x n))),[],⟨[],⟨rfl,rfl,rfl⟩,?_,trivial⟩,rfl,rfl⟩
 show x <<< _ ||| x >>> _=x <<< (32-n) ||| x >>> n
 rw [e1,e2]
abbrev digC (i:Nat) (V:Nat→BitVec 32) (P:Nat→BitVec 8) (h:Int) (a:BitVec 64):List Seg:=[.one (.p i 0 0),.row 8 (fun j=>.w32 (V j)),.row 64 (fun j=>.w8 (P j)),.one (.int .i64 h),.one (.w64 a)]
theorem fn_sdo (d:BitVec 32) (f s:Nat→BitVec 32) (hd:d=0#32∨d=1#32∧f=first∧s=steps):Fn Try.prog tds 64 [shaT d 0 f s] [.c (.p 0 0 0),.c (.clo 65 0 0 0)] (fun _=>True) (fun x hs=>x=.tup []∧hs=[shaT 1 0 first steps]):=by
 rcases hd with rfl|⟨rfl,rfl,rfl⟩
 ·exact fn_once (by kernel_rfl) (fn_sfill 0#32 1 f s)
 ·exact fn_once_done
theorem fn_begin (d:BitVec 32) (f s:Nat→BitVec 32) (hd:d=0#32∨d=1#32∧f=first∧s=steps):Fn Try.prog tds 50 [shaT d 0 f s] [.c (.p 0 0 0)] (fun _=>True) (fun x hs=>x=.a (.agg (digC 0 first (fun _=>0#8) 0 0))∧hs=[shaT 1 0 first steps]):=by
 refine fn_of_body tds_ok follows_ Try.func50 rfl (t:=.a (.c (.p 0 0 0))::anys 14) rfl (fun w r0 hr _=>?_)
 obtain ⟨x0,rfl⟩:=List.length_eq_one_iff.1 hr
 refine ⟨by kernel_rfl,call_same (fn_sdo d f s hd) [0] rfl ⟨rfl,rfl,rfl,trivial⟩ (by (repeat first|exact trivial|refine ⟨rfl,?_⟩|refine ⟨fun _ _=>⟨rfl,trivial⟩,?_⟩|refine ⟨by omega,?_⟩)) (fun _ _=>trivial) ?_⟩
 rintro x hs ⟨rfl,rfl⟩
 (repeat first|refine ⟨by omega,?_⟩|refine ⟨by decide,?_⟩|refine ⟨idx8 _,?_⟩|refine ⟨lt8 (Nat.le_refl _) _,?_⟩|refine ⟨rfl,?_⟩)
 refine ⟨.a (.agg (digC 0 first (fun _=>0#8) 0 0)),[shaT 1 0 first steps],⟨[0],⟨rfl,rfl,rfl⟩,?_⟩,rfl,rfl⟩
 (repeat first|exact trivial|refine ⟨rfl,?_⟩|refine ⟨fun _ _=>⟨rfl,trivial⟩,?_⟩|refine ⟨by omega,?_⟩)
end Sx
end
section
namespace Sx
open Sha

theorem upd_w32 {f g:Nat→SC} {k:Nat} {v:SC} (hv:v=g k) (hf:∀ j,j≠k→f j=g j) (j:Nat):upd f k v j=g j:=by
 unfold upd
 split
 ·rename_i h; rw [h,hv]
 ·rename_i h; exact hf j h
set_option maxHeartbeats 4000000 in
set_option maxRecDepth 20000 in
theorem fn_smix (V:Nat→BitVec 32) (P:Nat→BitVec 8) (hv:Int) (a:BitVec 64) :
  FnR Try.prog tds 66 1 [shaT 1 0 first steps,digC 0 V P hv a] [.c (.p 1 0 0)] (fun _=>True) (fun x hs=>x=.tup []∧hs=[shaT 1 0 first steps,digC 0 (compress V P) P hv a]):=by
 refine fn_of_body tds_ok follows_ Try.func66 rfl (t:=.a (.c (.p 1 0 0))::anys 206) rfl (fun w r0 hr _=>?_)
 obtain ⟨x0,x1,rfl⟩:=len2' hr
 refine .inl ⟨Nat,fun k=>⟨.a (.c (.p 1 0 0))::.any::.a (.c (.p 2 0 0))::(anys 20++(.a (.c (.int .i64 (k:Int)))::anys 183)),[shaT 1 0 first steps,digC 0 V P hv a,[.row 64 fun i=>.w32 (if i<k then w0 P i else 0#32)]]⟩,fun k=>k≤16,fun k=>16-k,⟨0,[0,1,2],⟨⟨rfl,rfl,rfl⟩,?_⟩,by omega⟩,fun k hk=>⟨fun h=>?_,fun h=>?_⟩⟩
 ·(repeat first|exact trivial|refine ⟨rfl,?_⟩|refine ⟨fun _ _=>⟨rfl,trivial⟩,?_⟩|refine ⟨by omega,?_⟩)
 ·have hlt:(k:Int)<16:=of_decide_eq_true h
  (repeat first|refine ⟨by omega,?_⟩|refine ⟨by decide,?_⟩|refine ⟨idx8 _,?_⟩|refine ⟨lt8 (Nat.le_refl _) _,?_⟩|refine ⟨rfl,?_⟩)
  have e4:(4*(k:Int)).toNat=4*k:=by omega
  have e64:((64:Nat):Int).toNat=64:=rfl
  simp only [frcN_eq,e4,e64,if_neg (show ¬ 64=4*k by omega)]
  refine ⟨none,[],[(0,true),(1,true),(2,true),(3,true),(4,true),(5,true),(6,true),(7,true),(8,true),(9,true),(10,true),(11,true),(12,true),(13,true),(14,true),(15,true),(16,true),(17,true),(18,true),(19,true),(20,true),(21,true),(22,true),(23,true)],[24],by kernel_rfl,?_⟩
  repeat first
   | refine ⟨by omega,?_⟩
  refine ⟨rfl,⟨by omega,by omega⟩,k+1,[0,1,2],⟨⟨rfl,rfl,rfl⟩,?_⟩,by first|omega|(dsimp only; omega),by first|omega|(dsimp only; omega)⟩
  (repeat first|exact trivial|refine ⟨rfl,?_⟩|refine ⟨fun _ _=>⟨rfl,trivial⟩,?_⟩|refine ⟨by omega,?_⟩)
  refine ⟨fun j hj=>?_,trivial⟩
  have e0:(k:Int).toNat+0=k:=by omega
  have i0:Int.toNat 0+(0+4*k*1)=4*k:=by omega
  have i1:Int.toNat 1+(0+4*k*1)=4*k+1:=by omega
  have i2:Int.toNat 2+(0+4*k*1)=4*k+2:=by omega
  have i3:Int.toNat 3+(0+4*k*1)=4*k+3:=by omega
  rw [e0,i0,i1,i2,i3]
  refine eqC_w32 ((upd_w32 (g:=fun i=>.w32 (if i<k+1 then w0 P i else 0#32)) ?_ ?_ j).trans rfl)
  ·simp only [if_pos (show k<k+1 by omega)]
   rfl
  ·intro j hjk
   have:j<k+1 ↔ j<k:=by omega
   simp only [this]
 ·obtain rfl:k=16:=by have:¬ (k:Int)<16:=of_decide_eq_false h; have hk:k≤16:=hk; omega
  refine .inl ⟨Nat,fun k=>⟨.a (.c (.p 1 0 0))::.any::.a (.c (.p 2 0 0))::.any::.any::.a (.c (.int .i64 ((16+k:Nat):Int)))::anys 201,[shaT 1 0 first steps,digC 0 V P hv a,[.row 64 fun i=>.w32 (wS P k i)]]⟩,fun k=>k≤48,fun k=>48-k,⟨0,[0,1,2],⟨⟨rfl,rfl,rfl⟩,?_⟩,by omega⟩,fun k hk=>⟨fun h=>?_,fun h=>?_⟩⟩
  ·(repeat first|exact trivial|refine ⟨rfl,?_⟩|refine ⟨fun _ _=>⟨rfl,trivial⟩,?_⟩|refine ⟨by omega,?_⟩)
  ·have hlt:((16+k:Nat):Int)<64:=of_decide_eq_true h
   refine ⟨none,[],[(0,true),(1,true),(2,true),(3,true),(4,true),(5,true),(6,true),(7,true),(8,true),(9,true)],[],by kernel_rfl,?_⟩
   (repeat first|refine ⟨by omega,?_⟩|refine ⟨by decide,?_⟩|refine ⟨idx8 _,?_⟩|refine ⟨lt8 (Nat.le_refl _) _,?_⟩)
   refine ⟨by kernel_rfl,call_same (fn_rot32 _ 7 (by omega) (by omega)) [] rfl ⟨rfl,rfl,trivial⟩ trivial (fun _ _=>trivial) ?_⟩
   rintro v hs ⟨rfl,rfl⟩
   refine ⟨by kernel_rfl,call_same (fn_rot32 _ 18 (by omega) (by omega)) [] rfl ⟨rfl,rfl,trivial⟩ trivial (fun _ _=>trivial) ?_⟩
   rintro v hs ⟨rfl,rfl⟩
   refine ⟨by kernel_rfl,call_same (fn_rot32 _ 17 (by omega) (by omega)) [] rfl ⟨rfl,rfl,trivial⟩ trivial (fun _ _=>trivial) ?_⟩
   rintro v hs ⟨rfl,rfl⟩
   refine ⟨by kernel_rfl,call_same (fn_rot32 _ 19 (by omega) (by omega)) [] rfl ⟨rfl,rfl,trivial⟩ trivial (fun _ _=>trivial) ?_⟩
   rintro v hs ⟨rfl,rfl⟩
   refine ⟨none,[],[(0,true),(1,true),(2,true),(3,true),(4,true),(5,true),(6,true),(7,true),(8,true),(9,true),(10,true),(11,true),(12,true),(13,true),(14,true)],[15],by kernel_rfl,?_⟩
   (repeat first|refine ⟨by omega,?_⟩|refine ⟨by decide,?_⟩|refine ⟨idx8 _,?_⟩|refine ⟨lt8 (Nat.le_refl _) _,?_⟩)
   refine ⟨rfl,⟨by omega,by omega⟩,k+1,[0,1,2],⟨⟨rfl,rfl,rfl⟩,?_⟩,by first|omega|(dsimp only; omega),by first|omega|(dsimp only; omega)⟩
   (repeat first|exact trivial|refine ⟨rfl,?_⟩|refine ⟨fun _ _=>⟨rfl,trivial⟩,?_⟩|refine ⟨by omega,?_⟩)
   refine ⟨fun j hj=>?_,trivial⟩
   have j0:((16+k:Nat):Int).toNat+0=16+k:=by omega
   have j1:(((16+k:Nat):Int)-16).toNat+0=k:=by omega
   have j2:(((16+k:Nat):Int)-15).toNat+0=k+1:=by omega
   have j3:(((16+k:Nat):Int)-7).toNat+0=k+9:=by omega
   have j4:(((16+k:Nat):Int)-2).toNat+0=k+14:=by omega
   rw [j0,j1,j2,j3,j4]
   refine eqC_w32 ((upd_w32 (g:=fun i=>.w32 (wS P (k+1) i)) ?_ ?_ j).trans rfl)
   ·simp only [wS]
    rfl
   ·intro i hi
    simp only [wS,if_neg hi]
  ·obtain rfl:k=48:=by have:¬ ((16+k:Nat):Int)<64:=of_decide_eq_false h; have hk:k≤48:=hk; omega
   obtain ⟨W,hW⟩:∃ W,wS P 48=W:=⟨_,rfl⟩
   rw [hW]
   (repeat first|refine ⟨by omega,?_⟩|refine ⟨by decide,?_⟩|refine ⟨idx8 _,?_⟩|refine ⟨lt8 (Nat.le_refl _) _,?_⟩|refine ⟨rfl,?_⟩)
   refine .inl ⟨Nat,fun k=>⟨.a (.c (.p 1 0 0))::.any::.a (.c (.p 2 0 0))::(anys 7++(.a (.c (.p 3 0 0))::(anys 93++(.a (.c (.int .i64 (k:Int)))::anys 102)))),[shaT 1 0 first steps,digC 0 V P hv a,[.row 64 fun i=>.w32 (W i)],[.row 8 fun i=>.w32 (vR W V k i)]]⟩,fun k=>k≤64,fun k=>64-k,⟨0,[0,1,2,3],⟨⟨rfl,rfl,rfl⟩,?_⟩,by omega⟩,fun k hk=>⟨fun h=>?_,fun h=>?_⟩⟩
   ·(repeat first|exact trivial|refine ⟨rfl,?_⟩|refine ⟨fun _ _=>⟨rfl,trivial⟩,?_⟩|refine ⟨by omega,?_⟩)
   ·have hlt:(k:Int)<64:=of_decide_eq_true h
    obtain ⟨v,hv⟩:∃ v,vR W V k=v:=⟨_,rfl⟩
    rw [hv]
    refine ⟨none,[],[(0,true),(1,true),(2,true),(3,true),(4,true),(5,true),(6,true),(7,true),(8,true),(9,true),(10,true),(11,true),(12,true),(13,true),(14,true),(15,true),(16,true),(17,true)],[],by kernel_rfl,?_⟩
    (repeat first|refine ⟨by omega,?_⟩|refine ⟨by decide,?_⟩|refine ⟨idx8 _,?_⟩|refine ⟨lt8 (Nat.le_refl _) _,?_⟩)
    refine ⟨by kernel_rfl,call_same (fn_rot32 _ 6 (by omega) (by omega)) [] rfl ⟨rfl,rfl,trivial⟩ trivial (fun _ _=>trivial) ?_⟩
    rintro v hs ⟨rfl,rfl⟩
    refine ⟨by kernel_rfl,call_same (fn_rot32 _ 11 (by omega) (by omega)) [] rfl ⟨rfl,rfl,trivial⟩ trivial (fun _ _=>trivial) ?_⟩
    rintro v hs ⟨rfl,rfl⟩
    refine ⟨by kernel_rfl,call_same (fn_rot32 _ 25 (by omega) (by omega)) [] rfl ⟨rfl,rfl,trivial⟩ trivial (fun _ _=>trivial) ?_⟩
    rintro v hs ⟨rfl,rfl⟩
    refine ⟨none,[],[(0,true),(1,true),(2,true),(3,true),(4,true),(5,true),(6,true),(7,true),(8,true),(9,true),(10,true),(11,true),(12,true),(13,true),(14,true),(15,true),(16,true),(17,true),(18,true),(19,true),(20,true),(21,true),(22,true),(23,true),(24,true),(25,true),(26,true),(27,true)],[],by kernel_rfl,?_⟩
    (repeat first|refine ⟨by omega,?_⟩|refine ⟨by decide,?_⟩|refine ⟨idx8 _,?_⟩|refine ⟨lt8 (Nat.le_refl _) _,?_⟩)
    refine ⟨by kernel_rfl,call_same (fn_rot32 _ 2 (by omega) (by omega)) [] rfl ⟨rfl,rfl,trivial⟩ trivial (fun _ _=>trivial) ?_⟩
    rintro v hs ⟨rfl,rfl⟩
    refine ⟨by kernel_rfl,call_same (fn_rot32 _ 13 (by omega) (by omega)) [] rfl ⟨rfl,rfl,trivial⟩ trivial (fun _ _=>trivial) ?_⟩
    rintro v hs ⟨rfl,rfl⟩
    refine ⟨by kernel_rfl,call_same (fn_rot32 _ 22 (by omega) (by omega)) [] rfl ⟨rfl,rfl,trivial⟩ trivial (fun _ _=>trivial) ?_⟩
    rintro v hs ⟨rfl,rfl⟩
    (repeat first|refine ⟨by omega,?_⟩|refine ⟨by decide,?_⟩|refine ⟨idx8 _,?_⟩|refine ⟨lt8 (Nat.le_refl _) _,?_⟩)
    refine ⟨rfl,⟨by omega,by omega⟩,k+1,[0,1,2,3],⟨⟨rfl,rfl,rfl⟩,?_⟩,by first|omega|(dsimp only; omega),by first|omega|(dsimp only; omega)⟩
    (repeat first|exact trivial|refine ⟨rfl,?_⟩|refine ⟨fun _ _=>⟨rfl,trivial⟩,?_⟩|refine ⟨by omega,?_⟩)
    refine ⟨fun j hj=>?_,trivial⟩
    have e0:(k:Int).toNat+0=k:=by omega
    rw [e0,show vR W V (k+1)=next v (steps k) (W k) by simp only [vR,hv]]
    have hj8:j=0∨j=1∨j=2∨j=3∨j=4∨j=5∨j=6∨j=7:=by omega
    rcases hj8 with rfl|rfl|rfl|rfl|rfl|rfl|rfl|rfl <;> exact ⟨rfl,trivial⟩
   ·obtain rfl:k=64:=by have:¬ (k:Int)<64:=of_decide_eq_false h; have hk:k≤64:=hk; omega
    obtain ⟨v,hv'⟩:∃ v,vR W V 64=v:=⟨_,rfl⟩
    rw [hv']
    refine .inl ⟨Nat,fun k=>⟨.a (.c (.p 1 0 0))::.any::.a (.c (.p 2 0 0))::(anys 7++(.a (.c (.p 3 0 0))::(anys 179++(.a (.c (.int .i64 (k:Int)))::anys 16)))),[shaT 1 0 first steps,digC 0 (fun i=>if i<k then V i+v i else V i) P hv a,[.row 64 fun i=>.w32 (W i)],[.row 8 fun i=>.w32 (v i)]]⟩,fun k=>k≤8,fun k=>8-k,⟨0,[0,1,2,3],⟨⟨rfl,rfl,rfl⟩,?_⟩,by omega⟩,fun k hk=>⟨fun h=>?_,fun h=>?_⟩⟩
    ·(repeat first|exact trivial|refine ⟨rfl,?_⟩|refine ⟨fun _ _=>⟨rfl,trivial⟩,?_⟩|refine ⟨by omega,?_⟩)
    ·have hlt:(k:Int)<8:=of_decide_eq_true h
     refine ⟨none,[],[(0,true),(1,true),(2,true),(3,true),(4,true),(5,true),(6,true),(7,true),(8,true),(9,true),(10,true),(11,true),(12,true)],[13],by kernel_rfl,?_⟩
     (repeat first|refine ⟨by omega,?_⟩|refine ⟨by decide,?_⟩|refine ⟨idx8 _,?_⟩|refine ⟨lt8 (Nat.le_refl _) _,?_⟩)
     refine ⟨rfl,⟨by omega,by omega⟩,k+1,[0,1,2,3],⟨⟨rfl,rfl,rfl⟩,?_⟩,by first|omega|(dsimp only; omega),by first|omega|(dsimp only; omega)⟩
     (repeat first|exact trivial|refine ⟨rfl,?_⟩|refine ⟨fun _ _=>⟨rfl,trivial⟩,?_⟩|refine ⟨by omega,?_⟩)
     have e0:(k:Int).toNat+0=k:=by omega
     refine ⟨fun j hj=>?_,?_⟩
     ·rw [e0]
      refine eqC_w32 ((upd_w32 (g:=fun i=>.w32 (if i<k+1 then V i+v i else V i)) ?_ ?_ j).trans rfl)
      ·simp only [if_pos (show k<k+1 by omega),if_neg (Nat.lt_irrefl k)]
      ·intro i hi
       have:i<k+1 ↔ i<k:=by omega
       simp only [this]
     ·(repeat first|exact trivial|refine ⟨rfl,?_⟩|refine ⟨fun _ _=>⟨rfl,trivial⟩,?_⟩|refine ⟨by omega,?_⟩)
    ·obtain rfl:k=8:=by have:¬ (k:Int)<8:=of_decide_eq_false h; have hk:k≤8:=hk; omega
     refine ⟨.tup [],[shaT 1 0 first steps,digC 0 (compress V P) P hv a],⟨[0,1],⟨rfl,rfl,rfl⟩,?_⟩,rfl,rfl⟩
     (repeat first|exact trivial|refine ⟨rfl,?_⟩|refine ⟨fun _ _=>⟨rfl,trivial⟩,?_⟩|refine ⟨by omega,?_⟩)
     refine ⟨fun j hj=>eqC_w32 (congrArg SC.w32 ?_),?_⟩
     ·show (if j<8 then V j+v j else V j)=compress V P j
      rw [if_pos hj,← hv',← hW]
      rfl
     ·(repeat first|exact trivial|refine ⟨rfl,?_⟩|refine ⟨fun _ _=>⟨rfl,trivial⟩,?_⟩|refine ⟨by omega,?_⟩)
end Sx
end
section
namespace Sha

structure Dg where
 V:Nat→BitVec 32
 P:Nat→BitVec 8
 h:Nat
def push (d:Dg) (x:BitVec 8):Dg :=
 if d.h+1=64 then ⟨compress d.V (fun i=>if i=d.h then x else d.P i),fun i=>if i=d.h then x else d.P i,0⟩
 else ⟨d.V,fun i=>if i=d.h then x else d.P i,d.h+1⟩
def pushN (d:Dg) (b:Nat→BitVec 8):Nat→Dg
 | 0=>d
 | k+1=>push (pushN d b k) (b k)
theorem push_lt {d:Dg} (h:d.h<64) (x:BitVec 8):(push d x).h<64:=by
 unfold push
 split
 ·show 0<64; omega
 ·rename_i hc; show d.h+1<64; omega
theorem pushN_lt {d:Dg} (h:d.h<64) (b:Nat→BitVec 8):∀ k,(pushN d b k).h<64
 | 0=>h
 | k+1=>push_lt (pushN_lt h b k) _
theorem pushN_add (d:Dg) (b:Nat→BitVec 8) (m:Nat):∀ k,pushN d b (m+k)=pushN (pushN d b m) (fun i=>b (m+i)) k
 | 0=>rfl
 | k+1=>by rw [← Nat.add_assoc]; simp only [pushN,pushN_add d b m k]
theorem pushN_wait (d:Dg) (b:Nat→BitVec 8):∀ k,d.h+k<64→pushN d b k=⟨d.V,fun i=>if d.h≤i∧i<d.h+k then b (i-d.h) else d.P i,d.h+k⟩
 | 0,_=>by
  have:∀ i,¬ (d.h≤i∧i<d.h+0):=fun i=>by omega
  simp only [pushN,this,if_false]
  rfl
 | k+1,hk=>by
  simp only [pushN,pushN_wait d b k (by omega)]
  unfold push
  rw [if_neg (by show ¬ d.h+k+1=64; omega)]
  congr 1
  funext i
  by_cases hi:i=d.h+k
  ·subst hi
   rw [if_pos rfl,if_pos ⟨by omega,by omega⟩]
   congr 1
   omega
  ·rw [if_neg hi]
   show (if d.h≤i∧i<d.h+k then b (i-d.h) else d.P i)=_
   by_cases h1:d.h≤i∧i<d.h+k
   ·rw [if_pos h1,if_pos ⟨h1.1,by omega⟩]
   ·rw [if_neg h1,if_neg (by omega)]
theorem pushN_fill (d:Dg) (b:Nat→BitVec 8) (k:Nat) (hk:d.h+k=64) (h0:0<k) :
  pushN d b k=⟨compress d.V (fun i=>if d.h≤i∧i<d.h+k then b (i-d.h) else d.P i),fun i=>if d.h≤i∧i<d.h+k then b (i-d.h) else d.P i,0⟩:=by
 obtain ⟨k,rfl⟩:∃ k',k=k'+1:=⟨k-1,by omega⟩
 simp only [pushN,pushN_wait d b k (by omega)]
 have e:(fun i=>if i=d.h+k then b k else (if d.h≤i∧i<d.h+k then b (i-d.h) else d.P i))=fun i=>if d.h≤i∧i<d.h+(k+1) then b (i-d.h) else d.P i:=by
  funext i
  by_cases hi:i=d.h+k
  ·subst hi
   rw [if_pos rfl,if_pos ⟨by omega,by omega⟩]
   congr 1
   omega
  ·rw [if_neg hi]
   by_cases h1:d.h≤i∧i<d.h+k
   ·rw [if_pos h1,if_pos ⟨h1.1,by omega⟩]
   ·rw [if_neg h1,if_neg (by omega)]
 unfold push
 rw [if_pos (by show d.h+k+1=64; omega)]
 show (⟨compress d.V (fun i=>if i=d.h+k then b k else (if d.h≤i∧i<d.h+k then b (i-d.h) else d.P i)),fun i=>if i=d.h+k then b k else (if d.h≤i∧i<d.h+k then b (i-d.h) else d.P i),0⟩:Dg)=_
 rw [e]
end Sha
end
section
namespace Sx
open Aes

end Sx
end
section
namespace Sx
open Aes

end Sx
end
section
namespace Sx
open Sha

theorem pushN_step (d:Dg) (B:Nat→BitVec 8) (k m:Nat) (h0:0<m) (hm:(pushN d B k).h+m≤64) :
  pushN d B (k+m)=if (pushN d B k).h+m=64
   then ⟨compress (pushN d B k).V (fun i=>if (pushN d B k).h≤i∧i<(pushN d B k).h+m then B (k+(i-(pushN d B k).h)) else (pushN d B k).P i),fun i=>if (pushN d B k).h≤i∧i<(pushN d B k).h+m then B (k+(i-(pushN d B k).h)) else (pushN d B k).P i,0⟩
   else ⟨(pushN d B k).V,fun i=>if (pushN d B k).h≤i∧i<(pushN d B k).h+m then B (k+(i-(pushN d B k).h)) else (pushN d B k).P i,(pushN d B k).h+m⟩:=by
 rw [pushN_add]
 split
 ·rename_i h; exact pushN_fill _ _ _ h h0
 ·rename_i h; exact pushN_wait _ _ _ (by omega)
theorem copied (q:List Nat) (P b:Nat→BitVec 8) (n h m s o k j:Nat) (e:s=o+k) (hm:k+m≤n):eqC q (updN (fun j=>SC.w8 (P j)) h m (fun q=>winF o n b (q+s)) j) (SC.w8 (if h≤j∧j<h+m then b (k+(j-h)) else P j)) True:=by
 unfold updN
 by_cases hj:h≤j∧j<h+m
 ·rw [if_pos hj,if_pos hj]
  show eqC q (winF o n b (j-h+s)) _ _
  rw [show j-h+s=o+(k+(j-h)) by omega,winF_at _ _ _ (by omega)]
  exact ⟨rfl,trivial⟩
 ·rw [if_neg hj,if_neg hj]
  exact ⟨rfl,trivial⟩
set_option maxRecDepth 20000 in
theorem fn_swrite (z:Bool) (n c N o:Nat) (b:Nat→BitVec 8) (d:Dg) (a:BitVec 64) (hd:d.h<64) (hN:o+n≤N) (hc:n≤c) (hz:z=true→n=0) :
  FnR Try.prog tds 51 2 [shaT 1 0 first steps,bts z N o n b,digC 0 d.V d.P d.h a] [.c (.p 2 0 0),.c (.sn z 1 0 o n c)] (fun _=>True)
   (fun x hs=>x=.tup []∧hs=[shaT 1 0 first steps,bts z N o n b,digC 0 (pushN d b n).V (pushN d b n).P (pushN d b n).h (a+BitVec.ofNat 64 n)]):=by
 refine fn_of_body tds_ok follows_ Try.func51 rfl (t:=[.a (.c (.p 2 0 0)),.a (.c (.sn z 1 0 o n c)),.any,.any,.any,.any,.any,.any,.any,.any,.any,.any,.any,.any,.any,.any,.any,.any,.any,.any,.any,.any,.any,.any,.any,.any,.any,.any,.any,.any,.any,.any,.any,.any,.any,.any,.any,.any,.any,.any,.any,.any,.any,.any,.any,.any,.any,.any,.any]) rfl (fun w r0 hr _=>?_)
 obtain ⟨x0,x1,x2,rfl⟩:=len3' hr
 cases z with
 | true =>
  obtain rfl:=hz rfl
  (repeat first|refine ⟨by omega,?_⟩|refine ⟨by decide,?_⟩|refine ⟨idx8 _,?_⟩|refine ⟨lt8 (Nat.le_refl _) _,?_⟩|refine ⟨rfl,?_⟩)
  refine .inl ⟨Unit,fun _=>⟨[.a (.c (.p 2 0 0)),.a (.c (.sn true 1 0 o 0 c)),.any,.any,.any,.any,.any,.any,.any,.any,.any,.any,.any,.any,.any,.any,.any,.any,.any,.any,.any,.any,.any,.any,.any,.any,.any,.any,.any,.any,.any,.any,.any,.any,.any,.any,.any,.any,.any,.any,.any,.any,.any,.any,.any,.any,.any,.any,.any],[shaT 1 0 first steps,bts true N o 0 b,digC 0 d.V d.P d.h (a+BitVec.ofNat 64 0)]⟩,
   fun _=>True,fun _=>0,⟨(),[0,1,2],⟨⟨rfl,rfl,rfl⟩,?_⟩,trivial⟩,fun _ _=>⟨fun h=>absurd (of_decide_eq_true h) (by decide),fun h=>?_⟩⟩
  ·(repeat first|exact trivial|refine ⟨rfl,?_⟩|refine ⟨fun _ _=>⟨rfl,trivial⟩,?_⟩|refine ⟨by omega,?_⟩)
  ·refine ⟨.tup [],_,⟨[0,1,2],⟨rfl,rfl,rfl⟩,?_⟩,rfl,rfl⟩
   (repeat first|exact trivial|refine ⟨rfl,?_⟩|refine ⟨fun _ _=>⟨rfl,trivial⟩,?_⟩|refine ⟨by omega,?_⟩)
 | false =>
 (repeat first|refine ⟨by omega,?_⟩|refine ⟨by decide,?_⟩|refine ⟨idx8 _,?_⟩|refine ⟨lt8 (Nat.le_refl _) _,?_⟩|refine ⟨rfl,?_⟩)
 refine .inl ⟨Nat × Nat × Nat,fun (k,oo,cc)=>⟨[.a (.c (.p 2 0 0)),.a (.c (.sn false 1 0 oo (n-k) cc)),.any,.any,.any,.any,.any,.any,.any,.any,.any,.any,.any,.any,.any,.any,.any,.any,.any,.any,.any,.any,.any,.any,.any,.any,.any,.any,.any,.any,.any,.any,.any,.any,.any,.any,.any,.any,.any,.any,.any,.any,.any,.any,.any,.any,.any,.any,.any],[shaT 1 0 first steps,[.row N (winF o n b)],digC 0 (pushN d b k).V (pushN d b k).P (pushN d b k).h (a+BitVec.ofNat 64 n)]⟩,
  fun (k,oo,cc)=>k≤n∧(k<n→oo=o+k)∧n-k≤cc∧cc≤c,fun (k,_,_)=>n-k,⟨(0,o,c),[0,1,2],⟨⟨rfl,rfl,rfl⟩,?_⟩,by omega,by omega,by omega,by omega⟩,fun (k,oo,cc) ⟨hk,hoo,hcc,hcc'⟩=>⟨fun h=>?_,fun h=>?_⟩⟩
 ·(repeat first|exact trivial|refine ent1 ?_)
 ·have hlt:k<n:=by have:((n-k:Nat):Int) > 0:=of_decide_eq_true h; omega
  obtain rfl:oo=o+k:=hoo hlt
  obtain ⟨D,hD⟩:∃ D,pushN d b k=D:=⟨_,rfl⟩
  have hDl:D.h<64:=by rw [← hD]; exact pushN_lt hd _ _
  have hst:=fun m h0 hm=>pushN_step d b k m h0 hm
  rw [hD] at hst ⊢
  refine ⟨none,[],[(0,true),(1,true),(2,true),(3,true),(4,true),(5,true),(6,true),(7,true),(8,true)],[9,10],by kernel_rfl,?_⟩
  (repeat first|refine ⟨by omega,?_⟩|refine ⟨by decide,?_⟩|refine ⟨idx8 _,?_⟩|refine ⟨lt8 (Nat.le_refl _) _,?_⟩|refine ⟨rfl,?_⟩)
  have e1:((D.h:Nat):Int).toNat=D.h:=by omega
  have e64:((64:Nat):Int).toNat=64:=rfl
  simp only [frcN_eq,e1,e64,if_neg (show ¬ 64=D.h by omega)]
  have hsrc:1*(n-k)≤N:=by omega
  (repeat first|refine ⟨by omega,?_⟩|refine ⟨by decide,?_⟩|refine ⟨idx8 _,?_⟩|refine ⟨lt8 (Nat.le_refl _) _,?_⟩|refine ⟨rfl,?_⟩)
  refine ⟨fun q=>winF o n b (q+(o+k)),⟨fun h=>Bool.noConfusion h,fun _=>⟨N,winF o n b,[],rfl,by simp only [scale]; omega,fun _ _=>rfl⟩⟩,?_⟩
  refine ⟨by omega,?_⟩
  generalize hm:min (n-k) (64-D.h)=m
  have hm1:m≤n-k∧m≤64-D.h∧0<m∧(m=n-k∨m=64-D.h):=by omega
  (repeat first|refine ⟨by omega,?_⟩|refine ⟨by decide,?_⟩|refine ⟨idx8 _,?_⟩|refine ⟨lt8 (Nat.le_refl _) _,?_⟩|refine ⟨rfl,?_⟩)
  have e2:((m:Nat):Int).toNat=m:=by omega
  have e3:((n-k:Nat):Int).toNat=n-k:=by omega
  have e4:((cc:Nat):Int).toNat=cc:=by omega
  simp only [frcN_eq,e2,e3]
  generalize ho2:(if cc=m then o+k else o+k+m*1)=o2
  have e5:n-k-m=n-(k+m):=by omega
  rw [e5]
  have hs:=hst m (by omega) (by omega)
  have hb1:k+m≤n:=by omega
  have hb2:n-(k+m)≤cc-m:=by omega
  have hb3:cc-m≤c:=by omega
  have hb4:n-(k+m)<n-k:=by omega
  have hb5:k+m<n→o2=o+(k+m):=fun hlt2=>by rw [← ho2,if_neg (by omega)]; omega
  have hb6:0+D.h*1=D.h:=by omega
  rw [hb6]
  refine ⟨fun h2=>?_,fun h2=>?_⟩
  ·have h64:D.h+m=64:=by have:=of_decide_eq_true h2; omega
   rw [if_pos h64] at hs
   refine ⟨by kernel_rfl,call_same (fn_smix D.V (fun i=>if D.h≤i∧i<D.h+m then b (k+(i-D.h)) else D.P i) ((D.h:Int)+m) (a+BitVec.ofNat 64 n)) [0,2] rfl ⟨rfl,trivial⟩ ?_ (fun _ _=>trivial) ?_⟩
   ·(repeat first|exact trivial|refine ent1 ?_)
    refine ⟨fun j hj=>copied _ D.P b n D.h m (o+k) o k j rfl hb1,?_⟩
    (repeat first|exact trivial|refine ent1 ?_)
   ·rintro x hs' ⟨rfl,rfl⟩
    refine ⟨rfl,?_⟩
    refine ⟨(k+m,o2,cc-m),[0,1,2],⟨⟨rfl,rfl,rfl⟩,?_⟩,⟨hb1,hb5,hb2,hb3⟩,hb4⟩
    dsimp only
    rw [hs]
    (repeat first|exact trivial|refine ent1 ?_)
  ·have h64:¬ D.h+m=64:=by have:=of_decide_eq_false h2; omega
   rw [if_neg h64] at hs
   refine ⟨(k+m,o2,cc-m),[0,1,2],⟨⟨rfl,rfl,rfl⟩,?_⟩,⟨hb1,hb5,hb2,hb3⟩,hb4⟩
   dsimp only
   rw [hs]
   (repeat first|exact trivial|refine ent1 ?_)
   refine ⟨fun j hj=>copied _ D.P b n D.h m (o+k) o k j rfl hb1,?_⟩
   (repeat first|exact trivial|refine ent1 ?_)
 ·have hkn:k=n:=by have:¬ ((n-k:Nat):Int) > 0:=of_decide_eq_false h; omega
  subst hkn
  refine ⟨.tup [],_,⟨[0,1,2],⟨rfl,rfl,rfl⟩,?_⟩,rfl,rfl⟩
  (repeat first|exact trivial|refine ent1 ?_)
end Sx
end
end Go.Proofs.Ytgmbfaefadefjaa
