/-
  Texts of this claim, part 9: HnU, Sxw2, HnM, HnX. No condition of its own.
-/
import Derived.Test.YtgmbfaefadefjaaG8
namespace Go.Proofs.Ytgmbfaefadefjaa
set_option linter.unusedVariables false
section
namespace Sx
open Go.RowKit Sha Vi

theorem kseq_kseq {f g:St→Prop} {Q:Exit→St→Prop}:Kseq f (Kseq g Q)=Kseq f Q:=by
 funext e s
 cases e <;> rfl
theorem vc_assoc {C:Cx} {a b c:Code} {s:St} {Q:Exit→St→Prop} (h:vc C (.seq (.seq a b) c) s Q):vc C (.seq a (.seq b c)) s Q:=by
 have h:vc C a s (Kseq (fun s'=>vc C b s' (Kseq (fun s''=>vc C c s'' Q) Q)) (Kseq (fun s''=>vc C c s'' Q) Q)):=h
 rw [kseq_kseq] at h
 exact h
theorem vc_cut {C:Cx} {a b:Code} {s:St} {Q:Exit→St→Prop} (T:(St→Prop)→Prop) (ha:∀ P:St→Prop,T P→vc C a s (Kseq P Q)) (hb:T (fun s'=>vc C b s' Q)):vc C (.seq a b) s Q:=ha _ hb
theorem vc_inB {C:Cx} {i:Nat} {a b:Code} {s:St} {Q:Exit→St→Prop} (h:vc C a s (Kblk i (Kseq (fun s'=>vc C b s' Q) Q))):vc C (.seq (.block i a) b) s Q:=h
theorem flat_msR (x:Ms) (a:Option Addr) (c:Nat):(flat (msR x a c)).length=75:=by simp [flat]
structure MslAt (W:World) (ms:List Nat) (a:Option Addr) (n c:Nat):Prop where
 le:n≤c
 nil:a=none→c=0
 elt:∀ A,a=some A→∀ k,k<n→∃ (x:Ms) (aS:Option Addr) (nS cS:Nat),ImAt W ms (A.add (k*75)) (flat (msR x aS cS))∧x.r.length=32∧x.m.length=32∧BsAt W ms aS nS cS x.p.s.l∧x.p.s=slR aS cS x.p.s.l
theorem label_three (z:Ms) (h:errMs z=0):z.k=1#8∨z.k=2#8∨z.k=20#8:=by
 have:=(err_known h).1
 unfold knownK at this
 by_cases h1:z.k=1#8
 ·exact .inl h1
 by_cases h2:z.k=2#8
 ·exact .inr (.inl h2)
 by_cases h3:z.k=20#8
 ·exact .inr (.inr h3)
 simp [h1,h2,h3] at this
theorem body_len {z:Ms} (hz:z.Ok) (hE:errMs z=0):(openMs z).length≤312:=by
 have h:=congrArg List.length (open_put hz)
 have hb:=(bodyMs_len hz hE).1
 have hm:=hz.m
 rw [List.length_append,hm] at h
 unfold putMs at h
 rw [List.length_append] at h
 have:(headMs z.k (bodyMs z).length).length=4:=rfl
 omega
theorem say_len {z:Ms} (hz:z.Ok) (hE:errMs z=0) {V E S:Bs} (h:V=openMs z++hmarkL E z.k S (openMs z)):V.length≤400∧V.length=(openMs z).length+32:=by
 have hb:=body_len hz hE
 have:V.length=(openMs z).length+32:=by rw [h,List.length_append,hmark_len]
 omega
theorem labM_len (k:BitVec 8):(labM k).length<100000:=by
 unfold labM
 split
 ·decide
 ·split <;> decide
theorem U8_addT (a b:Bs):U8 (a++b)=U8 a++U8 b:=by simp [U8]
theorem mp_four {g:Nat→Nat} {a b c d:List UInt8} {j:Nat} (hj:j<4):SC.mp g (nthC [.str a,.str b,.str c,.str d] j)=nthC [.str a,.str b,.str c,.str d] j:=by
 rcases (show j=0∨j=1∨j=2∨j=3 by omega) with rfl|rfl|rfl|rfl <;> rfl
theorem four_str {a b c d:List UInt8} {j:Nat} (hj:j<4):∃ s,nthC [.str a,.str b,.str c,.str d] j=SC.str s∧nthC [.str a,.str b,.str c,.str d] j=SC.str s:=by
 rcases (show j=0∨j=1∨j=2∨j=3 by omega) with rfl|rfl|rfl|rfl
 ·exact ⟨a,rfl,rfl⟩
 ·exact ⟨b,rfl,rfl⟩
 ·exact ⟨c,rfl,rfl⟩
 ·exact ⟨d,rfl,rfl⟩
theorem mp_want {g:Nat→Nat} {E S:Bs} {j:Nat} (hj:j<4):SC.mp g (nthC (wantL E S) j)=nthC (wantL E S) j:=by
 unfold wantL
 exact mp_four hj
set_option maxRecDepth 20000 in
set_option maxHeartbeats 8000000 in
theorem fn_hsaid (S:Sl) (early:Bs) (dn:BitVec 32) (f g:Nat→BitVec 32):FnR Try.prog tds 16 3 [svB S,scC 2 early 0 S,shaT dn 0 f g] [.c (.p 1 0 0)] (fun _=>True)
  (fun y hs=>y=.a (.c (.int .i64 (S.l.length:Nat)))∧hs=[svB S,scC 2 early 0 S,shaT dn 0 f g]):=by
 refine fn_of_body tds_ok follows_ Try.func16 rfl (t:=.a (.c (.p 1 0 0))::anys (Try.f16.ntmps-1)) rfl (fun w r0 hr _=>?_)
 obtain ⟨x0,x1,x2,rfl⟩:=len3' hr
 (repeat show _∧_;first|refine yr ?_|refine yt ?_|refine yf ?_|refine yo ?_)
 refine ⟨.a (.c (.int .i64 (S.l.length:Nat))),_,⟨[0,1,2],⟨rfl,rfl,rfl⟩,?_⟩,rfl,rfl⟩
 (repeat first|exact trivial|refine ent1 ?_)
 refine eqC_bts ?_
 (repeat first|exact trivial|refine ent1 ?_)
set_option maxRecDepth 20000 in
set_option maxHeartbeats 64000000 in
theorem fn_talks {W:World} {ms:List Nat} (K:Sl) (hKf:K.Fit) {a:Option Addr} {n c:Nat} (hms:MslAt W ms a n c) {aM:Option Addr} {nM cM:Nat} {lM:Bs} (hM:BsAt W ms aM nM cM lM) :
  FnR Try.prog tds 3 2 [[.past W ms],svB K] [.c (svC 1 K),.c (.slc a n c),.c (.slc aM nM cM)] (fun _=>True) (fun y _=>y=.a (.c (.bool true))):=by
 have lE:=early_len K.l
 obtain ⟨E,hE⟩:∃ E,earlyL K.l=E:=⟨_,rfl⟩
 rw [hE] at lE
 refine fn_of_body tds_ok follows_ Try.func3 rfl (t:=.a (.c (svC 1 K))::.a (.c (.slc a n c))::.a (.c (.slc aM nM cM))::anys (Try.f3.ntmps-3)) rfl (fun w r0 hr _=>?_)
 obtain ⟨x0,x1,rfl⟩:=len2' hr
 show vc _ _ _ _
 refine vc_assoc (vc_assoc (vc_assoc (vc_assoc (vc_assoc (vc_cut (fun P=>∀ (c0:Nat) (fE:Nat→SC) (v25 v26 v27 v28 v29 v30 v31 v32 v33 v34 v35 v36 v37 v38 v39 v40 v41 v42 v43:SV),32≤c0→(∀ i,i<32→fE i=.w8 (L E i))→K.Ok→n≤4→P ⟨[.a (.c (svC 1 K)),.a (.c (.slc a n c)),.a (.c (.slc aM nM cM)),.any,.any,.any,.a (.c (.bool (false))),.a (.c (.p 3 0 0)),.a (.c (.p 5 0 0)),.a (.c (.sl 7 0 0 32 c0)),.a (.c (.slc none 0 0)),.any,.any,.any,.any,.any,.any,.any,.any,.any,.any,.any,.any,.any,.any,v25,v26,v27,v28,v29,v30,v31,v32,v33,v34,v35,v36,v37,v38,v39,v40,v41,v42,v43,.any,.any,.any,.any,.any,.any,.any,.any,.any,.any,.any,.any,.any,.any,.any,.any,.any,.any,.any,.any,.any,.any,.any,.any,.any,.any,.any,.any,.any,.any,.any,.any,.any,.any,.any,.any,.any,.any,.any,.any,.any,.any,.any,.any,.any,.any,.any,.any,.any,.any,.any,.any,.any,.any,.any,.any,.any,.any,.any,.any,.any,.any,.any,.any,.any,.any,.any,.any,.any,.any,.any,.any,.any,.any,.any,.any,.any,.any,.any,.any,.any,.any,.any,.any,.any,.any,.any,.any,.any,.any,.any,.any,.any,.any,.any,.any,.any,.any,.any,.any,.any,.any,.any,.any,.any,.any,.any,.any,.any,.any,.any,.any,.any,.any,.any,.any,.any,.any,.any,.any,.any,.any,.any,.any,.any,.any,.any,.any,.any,.any,.any,.any,.any,.any,.any,.any,.any,.any,.any,.any,.any,.any,.any],[[.past W ms],svB K,shaT 1 0 first steps,scN 2 E,shaT 1 0 first steps,scN 4 E,[.row 32 (fun _=>.w8 0)],[.row c0 fE]]⟩) (fun P key=>?_) ?_)))))
 ·(repeat show _∧_;first|refine yr ?_|refine yt ?_|refine yf ?_|refine yo ?_)
  refine call_same fn_awake13 [0] rfl (by (repeat first|exact trivial|refine ent1 ?_)) (by exact eqSegs_nil (by (repeat first|exact trivial|refine ent1 ?_))) (fun _ _=>trivial) ?_
  rintro y hs' ⟨rfl,rfl⟩
  by_cases h1:100<K.l.length
  ·have e1:decide ((100:Int)<(K.l.length:Int))=true:=decide_eq_true (by omega)
   (repeat show _∧_;first|refine yr ?_|refine yt ?_|refine yf ?_|refine yt ?_ (by first|decide|(rw[e1];decide))|refine yf ?_ (by first|decide|(rw[e1];decide))|refine yo ?_)
   refine ⟨.a (.c (.bool true)),[[.past W ms],svB K],⟨[0,1],⟨rfl,rfl,rfl⟩,?_⟩,rfl⟩
   (repeat first|exact trivial|refine ent1 ?_)
   refine eqC_bts ?_
   (repeat first|exact trivial|refine ent1 ?_)
  have e1:decide ((100:Int)<(K.l.length:Int))=false:=decide_eq_false (by omega)
  by_cases hn4:4<n
  ·have e2:decide ((4:Int)<(n:Int))=true:=decide_eq_true (by omega)
   (repeat show _∧_;first|refine yr ?_|refine yt ?_|refine yf ?_|refine yt ?_ (by first|decide|(rw[e1];decide)|(rw[e2];decide))|refine yf ?_ (by first|decide|(rw[e1];decide)|(rw[e2];decide))|refine yo ?_)
   refine ⟨.a (.c (.bool true)),[[.past W ms],svB K],⟨[0,1],⟨rfl,rfl,rfl⟩,?_⟩,rfl⟩
   (repeat first|exact trivial|refine ent1 ?_)
   refine eqC_bts ?_
   (repeat first|exact trivial|refine ent1 ?_)
  have e2:decide ((4:Int)<(n:Int))=false:=decide_eq_false (by omega)
  have hK:K.Ok:=hKf.ok (by omega)
  have hKs:=hK.small
  (repeat show _∧_;first|refine yr ?_|refine yt ?_|refine yf ?_|refine yt ?_ (by first|decide|(rw[e1];decide)|(rw[e2];decide))|refine yf ?_ (by first|decide|(rw[e1];decide)|(rw[e2];decide))|refine yo ?_)
  refine call_same fn_knew [] rfl (by (repeat first|exact trivial|refine ent1 ?_)) trivial (fun _ _=>trivial) ?_
  rintro y hs' ⟨rfl,rfl⟩
  (repeat show _∧_;first|refine yr ?_|refine yt ?_|refine yf ?_|refine yo ?_)
  refine call_same (fn_hnew K hK 0#32 (fun _=>0#32) (fun _=>0#32) (.inl rfl)) [1,2] rfl (by (repeat first|exact trivial|refine ent1 ?_)) (by refine eqC_bts ?_; (repeat first|exact trivial|refine ent1 ?_)) (fun _ _=>trivial) ?_
  rintro y hs' ⟨rfl,rfl⟩
  (repeat show _∧_;first|refine yr ?_|refine yt ?_|refine yf ?_|refine yo ?_)
  refine call_same fn_knew [] rfl (by (repeat first|exact trivial|refine ent1 ?_)) trivial (fun _ _=>trivial) ?_
  rintro y hs' ⟨rfl,rfl⟩
  (repeat show _∧_;first|refine yr ?_|refine yt ?_|refine yf ?_|refine yo ?_)
  refine call_same (fn_hnew K hK 0#32 (fun _=>0#32) (fun _=>0#32) (.inl rfl)) [1,4] rfl (by (repeat first|exact trivial|refine ent1 ?_)) (by refine eqC_bts ?_; (repeat first|exact trivial|refine ent1 ?_)) (fun _ _=>trivial) ?_
  rintro y hs' ⟨rfl,rfl⟩
  rw [hE]
  (repeat show _∧_;first|refine yr ?_|refine yt ?_|refine yf ?_|refine yo ?_)
  refine call_same (fn_rmark false K.z 32 K.N 0 K.o 32 K.c zer32 K.l (by rw [zer_len]; decide) (by rw [zer_len]; decide) (fun h=>Bool.noConfusion h) hK.fit hK.cap hK.nil (by rw [zer_len]; decide) (by omega)) [6,1] rfl (by (repeat first|exact trivial|refine ent1 ?_)) ?_ (fun _ _=>trivial) ?_
  ·refine ⟨rfl,fun j hj=>eqC_win0 (f:=fun _=>SC.w8 0) (fun i hi=>?_) j,?_⟩
   ·rw [zer_len] at hi
    exact congrArg SC.w8 (zrow (q:=[]) i hi).1
   exact eqC_bts trivial
  rintro y hs' ⟨c0,rfl,rfl,hc0⟩
  rw [show markL zer32 K.l=earlyL K.l from rfl,hE]
  (repeat show _∧_;first|refine yr ?_|refine yt ?_|refine yf ?_|refine yo ?_)
  exact key c0 _ _ _ _ _ _ _ _ _ _ _ _ _ _ _ _ _ _ _ _ hc0 (fun i hi=>by rw [bytesF_lt hi]; rfl) hK (by omega)
 intro c0 fE v25 v26 v27 v28 v29 v30 v31 v32 v33 v34 v35 v36 v37 v38 v39 v40 v41 v42 v43 hc0 hfE hK hn4
 show vc _ _ _ _
 refine vc_cut (fun P=>(∀ (v44 v45 v46 v47:SV),P ⟨[.a (.c (svC 1 K)),.a (.c (.slc a n c)),.a (.c (.slc aM nM cM)),.any,.any,.any,.a (.c (.bool (false))),.a (.c (.p 3 0 0)),.a (.c (.p 5 0 0)),.a (.c (.sl 6 0 0 32 c0)),.a (.c (.slc none 0 0)),.any,.any,.any,.any,.any,.any,.any,.any,.any,.any,.any,.any,.any,.any,.any,.any,.any,.any,.any,.any,.any,.any,.any,.any,.any,.any,.any,.any,.any,.any,.any,.any,.any,v44,v45,v46,v47,.any,.any,.any,.any,.any,.any,.any,.any,.any,.any,.any,.any,.any,.any,.any,.any,.any,.any,.any,.any,.any,.any,.any,.any,.any,.any,.any,.any,.any,.any,.any,.any,.any,.any,.any,.any,.any,.any,.any,.any,.any,.any,.any,.any,.any,.any,.any,.any,.any,.any,.any,.any,.any,.any,.any,.any,.any,.any,.any,.any,.any,.any,.any,.any,.any,.any,.any,.any,.any,.any,.any,.any,.any,.any,.any,.any,.any,.any,.any,.any,.any,.any,.any,.any,.any,.any,.any,.any,.any,.any,.any,.any,.any,.any,.any,.any,.any,.any,.any,.any,.any,.any,.any,.any,.any,.any,.any,.any,.any,.any,.any,.any,.any,.any,.any,.any,.any,.any,.any,.any,.any,.any,.any,.any,.any,.any,.any,.any,.any,.any,.any,.any,.any,.any,.any,.any,.any,.any,.any],[[.past W ms],svB K,shaT 1 0 first steps,scN 2 E,shaT 1 0 first steps,scN 4 E,[.row c0 (bytesF 32 (L E))],[],[],[]]⟩)∧(∀ (k:Nat) (S:Bs) (cl ca cb:Nat) (v44 v45 v46 v47:SV),(1≤k∧k≤n∧S.length≤400*k∧S.length≠0∧S.length≤cl∧S.length≤ca∧S.length≤cb)→P ⟨[.a (.c (svC 1 K)),.a (.c (.slc a n c)),.a (.c (.slc aM nM cM)),.any,.any,.any,.a (.c (.bool (false))),.a (.c (.p 3 0 0)),.a (.c (.p 5 0 0)),.a (.c (.sl 6 0 0 32 c0)),.a (.c (.sl 7 0 0 S.length cl)),.any,.any,.any,.any,.any,.any,.any,.any,.any,.any,.any,.any,.any,.any,.any,.any,.any,.any,.any,.any,.any,.any,.any,.any,.any,.any,.any,.any,.any,.any,.any,.any,.any,v44,v45,v46,v47,.any,.any,.any,.any,.any,.any,.any,.any,.any,.any,.any,.any,.any,.any,.any,.any,.any,.any,.any,.any,.any,.any,.any,.any,.any,.any,.any,.any,.any,.any,.any,.any,.any,.any,.any,.any,.any,.any,.any,.any,.any,.any,.any,.any,.any,.any,.any,.any,.any,.any,.any,.any,.any,.any,.any,.any,.any,.any,.any,.any,.any,.any,.any,.any,.any,.any,.any,.any,.any,.any,.any,.any,.any,.any,.any,.any,.any,.any,.any,.any,.any,.any,.any,.any,.any,.any,.any,.any,.any,.any,.any,.any,.any,.any,.any,.any,.any,.any,.any,.any,.any,.any,.any,.any,.any,.any,.any,.any,.any,.any,.any,.any,.any,.any,.any,.any,.any,.any,.any,.any,.any,.any,.any,.any,.any,.any,.any,.any,.any,.any,.any,.any,.any,.any,.any,.any,.any,.any,.any],[[.past W ms],svB K,shaT 1 0 first steps,scS 2 E 8 S.length ca,shaT 1 0 first steps,scS 4 E 9 S.length cb,[.row c0 (bytesF 32 (L E))],lsC S cl,lsC S ca,lsC S cb]⟩)) (fun P keyL=>?_) ?_
 rotate_left
 ·refine And.intro ?_ ?_
  ·intro v44 v45 v46 v47
   show vc _ _ _ _
   refine vc_cut (fun P=>∀ (dn1 dn2:BitVec 32) (fa ga fb gb:Nat→BitVec 32) (s1 s2 s3 s4:Bs) (v146 v147 v148 v149:SV),s1.length=32→s2.length=32→s3.length=32→s4.length=32→wantL E []=[.str (U8 s1),.str (U8 s2),.str (U8 s3),.str (U8 s4)]→P ⟨[.a (.c (svC 1 K)),.a (.c (.slc a n c)),.a (.c (.slc aM nM cM)),.any,.any,.any,.a (.c (.bool (false))),.a (.c (.p 3 0 0)),.a (.c (.p 5 0 0)),.a (.c (.sl 6 0 0 32 c0)),.a (.c (.slc none 0 0)),.any,.any,.any,.any,.any,.any,.any,.any,.any,.any,.any,.a (.c (.p 10 0 0)),.a (.c (.p 11 0 0)),.any,.any,.any,.any,.any,.any,.any,.any,.any,.any,.any,.any,.any,.any,.any,.any,.any,.any,.any,.any,v44,v45,v46,v47,.any,.any,.any,.any,.any,.any,.any,.any,.any,.any,.any,.any,.any,.any,.any,.any,.any,.any,.any,.any,.any,.any,.any,.any,.any,.any,.any,.any,.any,.any,.any,.any,.any,.any,.any,.any,.any,.any,.any,.any,.any,.any,.any,.any,.any,.any,.any,.any,.any,.any,.any,.any,.any,.any,.any,.any,.any,.any,.any,.any,.any,.any,.any,.any,.any,.any,.any,.any,.any,.any,.any,.any,.any,.any,.any,.any,.any,.any,.any,.any,.any,.any,.any,.any,.any,.any,.any,.any,.any,.any,.any,.any,.any,.any,.any,.any,.any,.any,v146,v147,v148,v149,.any,.any,.any,.any,.any,.any,.any,.any,.any,.any,.any,.any,.any,.any,.any,.any,.any,.any,.any,.any,.any,.any,.any,.any,.any,.any,.any,.any,.any,.any,.any,.any,.any,.any,.any,.any,.any],[[.past W ms],svB K,shaT dn1 0 fa ga,scN 2 E,shaT dn2 0 fb gb,scN 4 E,[.row c0 (bytesF 32 (L E))],[],[],[],[ar s1,ar s2,ar s3,ar s4],[ar s1,ar s2,ar s3,ar s4]]⟩) (fun P key=>?_) ?_
   ·(repeat show _∧_;first|refine yr ?_|refine yt ?_|refine yf ?_|refine yo ?_)
    refine call_same (fn_hsecrets ⟨true,0,0,0,[]⟩ nil_ok E lE 1#32 first steps (.inr ⟨rfl,rfl,rfl⟩)) [7,3,2] rfl (by (repeat first|exact trivial|refine ent1 ?_)) (by (repeat first|exact trivial|refine ent1 ?_)) (fun _ _=>trivial) ?_
    rintro y hs' ⟨rfl,dn1,fa,ga,hd1,rfl⟩
    rw [show Sl.l ⟨true,0,0,0,[]⟩=[] from rfl]
    (repeat show _∧_;first|refine yr ?_|refine yt ?_|refine yf ?_|refine yo ?_)
    refine call_same (fn_hsecrets ⟨true,0,0,0,[]⟩ nil_ok E lE 1#32 first steps (.inr ⟨rfl,rfl,rfl⟩)) [7,5,4] rfl (by (repeat first|exact trivial|refine ent1 ?_)) (by (repeat first|exact trivial|refine ent1 ?_)) (fun _ _=>trivial) ?_
    rintro y hs' ⟨rfl,dn2,fb,gb,hd2,rfl⟩
    rw [show Sl.l ⟨true,0,0,0,[]⟩=[] from rfl]
    (repeat show _∧_;first|refine yr ?_|refine yt ?_|refine yf ?_|refine yo ?_)
    exact key dn1 dn2 fa ga fb gb (dervL (oneL E) [99,32,104,115,32,116,114,97,102,102,105,99] []) (dervL (oneL E) [115,32,104,115,32,116,114,97,102,102,105,99] []) (dervL (twoL E) [99,32,97,112,32,116,114,97,102,102,105,99] []) (dervL (twoL E) [115,32,97,112,32,116,114,97,102,102,105,99] []) _ _ _ _ (derv_len _ _ _) (derv_len _ _ _) (derv_len _ _ _) (derv_len _ _ _) rfl
   intro dn1 dn2 fa ga fb gb s1 s2 s3 s4 v146 v147 v148 v149 l1 l2 l3 l4 hWL
   show vc _ _ _ _
   refine vc_cut (fun P=>∀ (fW:Nat→SC) (v150 v151 v152:SV),(∀ j,j<4→fW j=nthC (wantL E []) j)→P ⟨[.a (.c (svC 1 K)),.a (.c (.slc a n c)),.a (.c (.slc aM nM cM)),.any,.any,.any,.a (.c (.bool (false))),.a (.c (.p 3 0 0)),.a (.c (.p 5 0 0)),.a (.c (.sl 6 0 0 32 c0)),.a (.c (.slc none 0 0)),.any,.any,.any,.any,.any,.any,.any,.any,.any,.any,.any,.a (.c (.p 10 0 0)),.a (.c (.p 11 0 0)),.a (.c (.p 12 0 0)),.any,.any,.any,.any,.any,.any,.any,.any,.any,.any,.any,.any,.any,.any,.any,.any,.any,.any,.any,v44,v45,v46,v47,.any,.any,.any,.any,.any,.any,.any,.any,.any,.any,.any,.any,.any,.any,.any,.any,.any,.any,.any,.any,.any,.any,.any,.any,.any,.any,.any,.any,.any,.any,.any,.any,.any,.any,.any,.any,.any,.any,.any,.any,.any,.any,.any,.any,.any,.any,.any,.any,.any,.any,.any,.any,.any,.any,.any,.any,.any,.any,.any,.any,.any,.any,.any,.any,.any,.any,.any,.any,.any,.any,.any,.any,.any,.any,.any,.any,.any,.any,.any,.any,.any,.any,.any,.any,.any,.any,.any,.any,.any,.any,.any,.any,.any,.any,.any,.any,.any,.any,v146,v147,v148,v149,v150,v151,v152,.any,.any,.any,.any,.any,.any,.any,.any,.any,.any,.any,.any,.any,.any,.any,.any,.any,.any,.any,.any,.any,.any,.any,.any,.any,.any,.any,.any,.any,.any,.any,.any,.any,.any],[[.past W ms],svB K,shaT dn1 0 fa ga,scN 2 E,shaT dn2 0 fb gb,scN 4 E,[.row c0 (bytesF 32 (L E))],[],[],[],[ar s1,ar s2,ar s3,ar s4],[ar s1,ar s2,ar s3,ar s4],[.row 4 fW]]⟩) (fun P key=>?_) ?_
   ·have hW:=fn_hwant K ⟨true,0,0,0,[]⟩ hK nil_ok (by decide)
    rw [show Sl.l ⟨true,0,0,0,[]⟩=[] from rfl,hE] at hW
    (repeat show _∧_;first|refine yr ?_|refine yt ?_|refine yf ?_|refine yo ?_)
    refine call_same hW [1,7] rfl (by (repeat first|exact trivial|refine ent1 ?_)) (by refine eqC_bts ?_; (repeat first|exact trivial|refine ent1 ?_)) (fun _ _=>trivial) ?_
    rintro y hs' ⟨rfl,rfl⟩
    (repeat show _∧_;first|refine yr ?_|refine yt ?_|refine yf ?_|refine yo ?_)
    exact key _ _ _ _ (fun j hj=>mp_want hj)
   intro fW v150 v151 v152 hfW
   show vc _ _ _ _
   rw [hWL] at hfW
   clear hWL
   refine ⟨none,[],[(0,true),(1,true),(2,true),(3,true),(4,true),(6,true),(7,true),(5,false),(8,true),(9,true),(10,true),(11,true),(13,true),(14,true),(12,false),(15,true),(16,true),(17,true),(18,true),(19,true),(20,true),(21,true),(22,true),(23,true),(24,true),(25,true),(26,true),(27,true),(28,true),(29,true),(30,true),(31,true),(32,true),(33,true),(34,true)],[],by kernel_rfl,?_⟩
   (repeat show _∧_;first|refine yr ?_|refine yt ?_|refine yf ?_|refine yo ?_)
   refine And.intro ⟨Try.stoodInHeld47,Try.eqGuardType47,⟨rfl,fun j hj=>sec_ok (g:=id) (g':=id) j hj 0 (.inl rfl)⟩,⟨rfl,fun j hj=>sec_ok (g:=id) (g':=id) j hj 32 (.inr (.inl rfl))⟩,⟨rfl,fun j hj=>sec_ok (g:=id) (g':=id) j hj 64 (.inr (.inr (.inl rfl)))⟩,⟨rfl,fun j hj=>sec_ok (g:=id) (g':=id) j hj 96 (.inr (.inr (.inr rfl)))⟩,trivial⟩ ?_
   (repeat show _∧_;first|refine yr ?_|refine yt ?_|refine yf ?_|refine yo ?_)
   refine call_same (fn_hsaid ⟨true,0,0,0,[]⟩ E dn1 fa ga) [7,3,2] rfl (by (repeat first|exact trivial|refine ent1 ?_)) (by (repeat first|exact trivial|refine ent1 ?_)) (fun _ _=>trivial) ?_
   rintro y hs' ⟨rfl,rfl⟩
   rw [show Sl.l ⟨true,0,0,0,[]⟩=[] from rfl]
   have e1:decide (((0:Nat):Int)=0)=true:=by decide
   (repeat show _∧_;first|refine yr ?_|refine yt ?_|refine yf ?_|refine yt ?_ (by first|decide|(rw[e1];decide))|refine yf ?_ (by first|decide|(rw[e1];decide))|refine yo ?_)
   refine call_same (fn_hsaid ⟨true,0,0,0,[]⟩ E dn2 fb gb) [7,5,4] rfl (by (repeat first|exact trivial|refine ent1 ?_)) (by (repeat first|exact trivial|refine ent1 ?_)) (fun _ _=>trivial) ?_
   rintro y hs' ⟨rfl,rfl⟩
   rw [show Sl.l ⟨true,0,0,0,[]⟩=[] from rfl]
   (repeat show _∧_;first|refine yr ?_|refine yt ?_|refine yf ?_|refine yt ?_ (by first|decide|(rw[e1];decide))|refine yf ?_ (by first|decide|(rw[e1];decide))|refine yo ?_)
   refine ⟨U8 s1,str_of l1 (fun q hq=>rfl),?_⟩
   (repeat show _∧_;first|refine yr ?_|refine yt ?_|refine yf ?_|refine yt ?_ (by first|decide|(rw[e1];decide))|refine yf ?_ (by first|decide|(rw[e1];decide))|refine yo ?_)
   refine ⟨U8 s2,str_of l2 (fun q hq=>rfl),?_⟩
   (repeat show _∧_;first|refine yr ?_|refine yt ?_|refine yf ?_|refine yt ?_ (by first|decide|(rw[e1];decide))|refine yf ?_ (by first|decide|(rw[e1];decide))|refine yo ?_)
   refine ⟨U8 s3,str_of l3 (fun q hq=>rfl),?_⟩
   (repeat show _∧_;first|refine yr ?_|refine yt ?_|refine yf ?_|refine yt ?_ (by first|decide|(rw[e1];decide))|refine yf ?_ (by first|decide|(rw[e1];decide))|refine yo ?_)
   refine ⟨U8 s4,str_of l4 (fun q hq=>rfl),?_⟩
   (repeat show _∧_;first|refine yr ?_|refine yt ?_|refine yf ?_|refine yt ?_ (by first|decide|(rw[e1];decide))|refine yf ?_ (by first|decide|(rw[e1];decide))|refine yo ?_)
   refine ⟨⟨rfl,rfl,fun j hj=>?_⟩,?_⟩
   ·have hj:j<4:=hj
    show ∃ s,nthC _ j=SC.str s∧fW j=SC.str s
    rw [hfW j hj]
    exact four_str hj
   (repeat show _∧_;first|refine yr ?_|refine yt ?_|refine yf ?_|refine yt ?_ (by first|decide|(rw[e1];decide))|refine yf ?_ (by first|decide|(rw[e1];decide))|refine yo ?_)
   refine ⟨.a (.c (.bool true)),[[.past W ms],svB K],⟨[0,1],⟨rfl,rfl,rfl⟩,?_⟩,rfl⟩
   (repeat first|exact trivial|refine ent1 ?_)
   refine eqC_bts ?_
   (repeat first|exact trivial|refine ent1 ?_)
  ·intro k S cl ca cb v44 v45 v46 v47 hx
   obtain ⟨h1',h2',h3',h4,h5,h6,h7⟩:=hx
   have hSm:S.length≤1600:=by omega
   show vc _ _ _ _
   refine vc_cut (fun P=>∀ (dn1 dn2:BitVec 32) (fa ga fb gb:Nat→BitVec 32) (s1 s2 s3 s4:Bs) (v146 v147 v148 v149:SV),s1.length=32→s2.length=32→s3.length=32→s4.length=32→wantL E S=[.str (U8 s1),.str (U8 s2),.str (U8 s3),.str (U8 s4)]→P ⟨[.a (.c (svC 1 K)),.a (.c (.slc a n c)),.a (.c (.slc aM nM cM)),.any,.any,.any,.a (.c (.bool (false))),.a (.c (.p 3 0 0)),.a (.c (.p 5 0 0)),.a (.c (.sl 6 0 0 32 c0)),.a (.c (.sl 7 0 0 S.length cl)),.any,.any,.any,.any,.any,.any,.any,.any,.any,.any,.any,.a (.c (.p 10 0 0)),.a (.c (.p 11 0 0)),.any,.any,.any,.any,.any,.any,.any,.any,.any,.any,.any,.any,.any,.any,.any,.any,.any,.any,.any,.any,v44,v45,v46,v47,.any,.any,.any,.any,.any,.any,.any,.any,.any,.any,.any,.any,.any,.any,.any,.any,.any,.any,.any,.any,.any,.any,.any,.any,.any,.any,.any,.any,.any,.any,.any,.any,.any,.any,.any,.any,.any,.any,.any,.any,.any,.any,.any,.any,.any,.any,.any,.any,.any,.any,.any,.any,.any,.any,.any,.any,.any,.any,.any,.any,.any,.any,.any,.any,.any,.any,.any,.any,.any,.any,.any,.any,.any,.any,.any,.any,.any,.any,.any,.any,.any,.any,.any,.any,.any,.any,.any,.any,.any,.any,.any,.any,.any,.any,.any,.any,.any,.any,v146,v147,v148,v149,.any,.any,.any,.any,.any,.any,.any,.any,.any,.any,.any,.any,.any,.any,.any,.any,.any,.any,.any,.any,.any,.any,.any,.any,.any,.any,.any,.any,.any,.any,.any,.any,.any,.any,.any,.any,.any],[[.past W ms],svB K,shaT dn1 0 fa ga,scS 2 E 8 S.length ca,shaT dn2 0 fb gb,scS 4 E 9 S.length cb,[.row c0 (bytesF 32 (L E))],lsC S cl,lsC S ca,lsC S cb,[ar s1,ar s2,ar s3,ar s4],[ar s1,ar s2,ar s3,ar s4]]⟩) (fun P key=>?_) ?_
   ·(repeat show _∧_;first|refine yr ?_|refine yt ?_|refine yf ?_|refine yo ?_)
    refine call_same (fn_hsecrets ⟨false,ca,0,ca,S⟩ (own_ok h6 (by omega)) E lE 1#32 first steps (.inr ⟨rfl,rfl,rfl⟩)) [8,3,2] rfl (by (repeat first|exact trivial|refine ent1 ?_)) (by (repeat first|exact trivial|refine ent1 ?_)) (fun _ _=>trivial) ?_
    rintro y hs' ⟨rfl,dn1,fa,ga,hd1,rfl⟩
    rw [show Sl.l ⟨false,ca,0,ca,S⟩=S from rfl]
    (repeat show _∧_;first|refine yr ?_|refine yt ?_|refine yf ?_|refine yo ?_)
    refine call_same (fn_hsecrets ⟨false,cb,0,cb,S⟩ (own_ok h7 (by omega)) E lE 1#32 first steps (.inr ⟨rfl,rfl,rfl⟩)) [9,5,4] rfl (by (repeat first|exact trivial|refine ent1 ?_)) (by (repeat first|exact trivial|refine ent1 ?_)) (fun _ _=>trivial) ?_
    rintro y hs' ⟨rfl,dn2,fb,gb,hd2,rfl⟩
    rw [show Sl.l ⟨false,cb,0,cb,S⟩=S from rfl]
    (repeat show _∧_;first|refine yr ?_|refine yt ?_|refine yf ?_|refine yo ?_)
    exact key dn1 dn2 fa ga fb gb (dervL (oneL E) [99,32,104,115,32,116,114,97,102,102,105,99] S) (dervL (oneL E) [115,32,104,115,32,116,114,97,102,102,105,99] S) (dervL (twoL E) [99,32,97,112,32,116,114,97,102,102,105,99] S) (dervL (twoL E) [115,32,97,112,32,116,114,97,102,102,105,99] S) _ _ _ _ (derv_len _ _ _) (derv_len _ _ _) (derv_len _ _ _) (derv_len _ _ _) rfl
   intro dn1 dn2 fa ga fb gb s1 s2 s3 s4 v146 v147 v148 v149 l1 l2 l3 l4 hWL
   show vc _ _ _ _
   refine vc_cut (fun P=>∀ (fW:Nat→SC) (v150 v151 v152:SV),(∀ j,j<4→fW j=nthC (wantL E S) j)→P ⟨[.a (.c (svC 1 K)),.a (.c (.slc a n c)),.a (.c (.slc aM nM cM)),.any,.any,.any,.a (.c (.bool (false))),.a (.c (.p 3 0 0)),.a (.c (.p 5 0 0)),.a (.c (.sl 6 0 0 32 c0)),.a (.c (.sl 7 0 0 S.length cl)),.any,.any,.any,.any,.any,.any,.any,.any,.any,.any,.any,.a (.c (.p 10 0 0)),.a (.c (.p 11 0 0)),.a (.c (.p 12 0 0)),.any,.any,.any,.any,.any,.any,.any,.any,.any,.any,.any,.any,.any,.any,.any,.any,.any,.any,.any,v44,v45,v46,v47,.any,.any,.any,.any,.any,.any,.any,.any,.any,.any,.any,.any,.any,.any,.any,.any,.any,.any,.any,.any,.any,.any,.any,.any,.any,.any,.any,.any,.any,.any,.any,.any,.any,.any,.any,.any,.any,.any,.any,.any,.any,.any,.any,.any,.any,.any,.any,.any,.any,.any,.any,.any,.any,.any,.any,.any,.any,.any,.any,.any,.any,.any,.any,.any,.any,.any,.any,.any,.any,.any,.any,.any,.any,.any,.any,.any,.any,.any,.any,.any,.any,.any,.any,.any,.any,.any,.any,.any,.any,.any,.any,.any,.any,.any,.any,.any,.any,.any,v146,v147,v148,v149,v150,v151,v152,.any,.any,.any,.any,.any,.any,.any,.any,.any,.any,.any,.any,.any,.any,.any,.any,.any,.any,.any,.any,.any,.any,.any,.any,.any,.any,.any,.any,.any,.any,.any,.any,.any,.any],[[.past W ms],svB K,shaT dn1 0 fa ga,scS 2 E 8 S.length ca,shaT dn2 0 fb gb,scS 4 E 9 S.length cb,[.row c0 (bytesF 32 (L E))],lsC S cl,lsC S ca,lsC S cb,[ar s1,ar s2,ar s3,ar s4],[ar s1,ar s2,ar s3,ar s4],[.row 4 fW]]⟩) (fun P key=>?_) ?_
   ·have hW:=fn_hwant K ⟨false,cl,0,cl,S⟩ hK (own_ok h5 (by omega)) (by show S.length<1000000; omega)
    rw [show Sl.l ⟨false,cl,0,cl,S⟩=S from rfl,hE] at hW
    (repeat show _∧_;first|refine yr ?_|refine yt ?_|refine yf ?_|refine yo ?_)
    refine call_same hW [1,7] rfl (by (repeat first|exact trivial|refine ent1 ?_)) (by refine eqC_bts ?_; (repeat first|exact trivial|refine ent1 ?_)) (fun _ _=>trivial) ?_
    rintro y hs' ⟨rfl,rfl⟩
    (repeat show _∧_;first|refine yr ?_|refine yt ?_|refine yf ?_|refine yo ?_)
    exact key _ _ _ _ (fun j hj=>mp_want hj)
   intro fW v150 v151 v152 hfW
   show vc _ _ _ _
   rw [hWL] at hfW
   clear hWL
   refine ⟨none,[],[(0,true),(1,true),(2,true),(3,true),(4,true),(6,true),(7,true),(5,false),(8,true),(9,true),(10,true),(11,true),(13,true),(14,true),(12,false),(15,true),(16,true),(17,true),(18,true),(19,true),(20,true),(21,true),(22,true),(23,true),(24,true),(25,true),(26,true),(27,true),(28,true),(29,true),(30,true),(31,true),(32,true),(33,true),(34,true)],[],by kernel_rfl,?_⟩
   (repeat show _∧_;first|refine yr ?_|refine yt ?_|refine yf ?_|refine yo ?_)
   refine And.intro ⟨Try.stoodInHeld47,Try.eqGuardType47,⟨rfl,fun j hj=>sec_ok (g:=id) (g':=id) j hj 0 (.inl rfl)⟩,⟨rfl,fun j hj=>sec_ok (g:=id) (g':=id) j hj 32 (.inr (.inl rfl))⟩,⟨rfl,fun j hj=>sec_ok (g:=id) (g':=id) j hj 64 (.inr (.inr (.inl rfl)))⟩,⟨rfl,fun j hj=>sec_ok (g:=id) (g':=id) j hj 96 (.inr (.inr (.inr rfl)))⟩,trivial⟩ ?_
   (repeat show _∧_;first|refine yr ?_|refine yt ?_|refine yf ?_|refine yo ?_)
   refine call_same (fn_hsaid ⟨false,ca,0,ca,S⟩ E dn1 fa ga) [8,3,2] rfl (by (repeat first|exact trivial|refine ent1 ?_)) (by (repeat first|exact trivial|refine ent1 ?_)) (fun _ _=>trivial) ?_
   rintro y hs' ⟨rfl,rfl⟩
   rw [show Sl.l ⟨false,ca,0,ca,S⟩=S from rfl]
   have e1:decide (((S.length:Nat):Int)=((S.length:Nat):Int))=true:=decide_eq_true rfl
   (repeat show _∧_;first|refine yr ?_|refine yt ?_|refine yf ?_|refine yt ?_ (by first|decide|(rw[e1];decide))|refine yf ?_ (by first|decide|(rw[e1];decide))|refine yo ?_)
   refine call_same (fn_hsaid ⟨false,cb,0,cb,S⟩ E dn2 fb gb) [9,5,4] rfl (by (repeat first|exact trivial|refine ent1 ?_)) (by (repeat first|exact trivial|refine ent1 ?_)) (fun _ _=>trivial) ?_
   rintro y hs' ⟨rfl,rfl⟩
   rw [show Sl.l ⟨false,cb,0,cb,S⟩=S from rfl]
   (repeat show _∧_;first|refine yr ?_|refine yt ?_|refine yf ?_|refine yt ?_ (by first|decide|(rw[e1];decide))|refine yf ?_ (by first|decide|(rw[e1];decide))|refine yo ?_)
   refine ⟨U8 s1,str_of l1 (fun q hq=>rfl),?_⟩
   (repeat show _∧_;first|refine yr ?_|refine yt ?_|refine yf ?_|refine yt ?_ (by first|decide|(rw[e1];decide))|refine yf ?_ (by first|decide|(rw[e1];decide))|refine yo ?_)
   refine ⟨U8 s2,str_of l2 (fun q hq=>rfl),?_⟩
   (repeat show _∧_;first|refine yr ?_|refine yt ?_|refine yf ?_|refine yt ?_ (by first|decide|(rw[e1];decide))|refine yf ?_ (by first|decide|(rw[e1];decide))|refine yo ?_)
   refine ⟨U8 s3,str_of l3 (fun q hq=>rfl),?_⟩
   (repeat show _∧_;first|refine yr ?_|refine yt ?_|refine yf ?_|refine yt ?_ (by first|decide|(rw[e1];decide))|refine yf ?_ (by first|decide|(rw[e1];decide))|refine yo ?_)
   refine ⟨U8 s4,str_of l4 (fun q hq=>rfl),?_⟩
   (repeat show _∧_;first|refine yr ?_|refine yt ?_|refine yf ?_|refine yt ?_ (by first|decide|(rw[e1];decide))|refine yf ?_ (by first|decide|(rw[e1];decide))|refine yo ?_)
   refine ⟨⟨rfl,rfl,fun j hj=>?_⟩,?_⟩
   ·have hj:j<4:=hj
    show ∃ s,nthC _ j=SC.str s∧fW j=SC.str s
    rw [hfW j hj]
    exact four_str hj
   (repeat show _∧_;first|refine yr ?_|refine yt ?_|refine yf ?_|refine yt ?_ (by first|decide|(rw[e1];decide))|refine yf ?_ (by first|decide|(rw[e1];decide))|refine yo ?_)
   refine ⟨.a (.c (.bool true)),[[.past W ms],svB K],⟨[0,1],⟨rfl,rfl,rfl⟩,?_⟩,rfl⟩
   (repeat first|exact trivial|refine ent1 ?_)
   refine eqC_bts ?_
   (repeat first|exact trivial|refine ent1 ?_)
 (repeat show _∧_;first|refine yr ?_|refine yt ?_|refine yf ?_|refine yo ?_)
 refine .inl ⟨Option (Nat × Bs × Nat × Nat × Nat),fun x=>match x with
  | none=>⟨[.a (.c (svC 1 K)),.a (.c (.slc a n c)),.a (.c (.slc aM nM cM)),.any,.any,.any,.a (.c (.bool (false))),.a (.c (.p 3 0 0)),.a (.c (.p 5 0 0)),.a (.c (.sl 6 0 0 32 c0)),.a (.c (.slc none 0 0)),.any,.any,.any,.any,.any,.any,.any,.any,.any,.any,.any,.any,.any,.any,.any,.any,.any,.any,.any,.any,.any,.any,.any,.any,.any,.any,.any,.any,.any,.any,.any,.any,.any,.a (.c (.slc a n c)),.a (.c (.int .i64 (↑n))),.a (.c (.int .i64 (0))),.any,.any,.any,.any,.any,.any,.any,.any,.any,.any,.any,.any,.any,.any,.any,.any,.any,.any,.any,.any,.any,.any,.any,.any,.any,.any,.any,.any,.any,.any,.any,.any,.any,.any,.any,.any,.any,.any,.any,.any,.any,.any,.any,.any,.any,.any,.any,.any,.any,.any,.any,.any,.any,.any,.any,.any,.any,.any,.any,.any,.any,.any,.any,.any,.any,.any,.any,.any,.any,.any,.any,.any,.any,.any,.any,.any,.any,.any,.any,.any,.any,.any,.any,.any,.any,.any,.any,.any,.any,.any,.any,.any,.any,.any,.any,.any,.any,.any,.any,.any,.any,.any,.any,.any,.any,.any,.any,.any,.any,.any,.any,.any,.any,.any,.any,.any,.any,.any,.any,.any,.any,.any,.any,.any,.any,.any,.any,.any,.any,.any,.any,.any,.any,.any,.any,.any,.any,.any,.any,.any],[[.past W ms],svB K,shaT 1 0 first steps,scN 2 E,shaT 1 0 first steps,scN 4 E,[.row c0 (bytesF 32 (L E))],[],[],[]]⟩
  | some (k,S,cl,ca,cb)=>⟨[.a (.c (svC 1 K)),.a (.c (.slc a n c)),.a (.c (.slc aM nM cM)),.any,.any,.any,.a (.c (.bool (false))),.a (.c (.p 3 0 0)),.a (.c (.p 5 0 0)),.a (.c (.sl 6 0 0 32 c0)),.a (.c (.sl 7 0 0 S.length cl)),.any,.any,.any,.any,.any,.any,.any,.any,.any,.any,.any,.any,.any,.any,.any,.any,.any,.any,.any,.any,.any,.any,.any,.any,.any,.any,.any,.any,.any,.any,.any,.any,.any,.a (.c (.slc a n c)),.a (.c (.int .i64 (↑n))),.a (.c (.int .i64 (↑k))),.any,.any,.any,.any,.any,.any,.any,.any,.any,.any,.any,.any,.any,.any,.any,.any,.any,.any,.any,.any,.any,.any,.any,.any,.any,.any,.any,.any,.any,.any,.any,.any,.any,.any,.any,.any,.any,.any,.any,.any,.any,.any,.any,.any,.any,.any,.any,.any,.any,.any,.any,.any,.any,.any,.any,.any,.any,.any,.any,.any,.any,.any,.any,.any,.any,.any,.any,.any,.any,.any,.any,.any,.any,.any,.any,.any,.any,.any,.any,.any,.any,.any,.any,.any,.any,.any,.any,.any,.any,.any,.any,.any,.any,.any,.any,.any,.any,.any,.any,.any,.any,.any,.any,.any,.any,.any,.any,.any,.any,.any,.any,.any,.any,.any,.any,.any,.any,.any,.any,.any,.any,.any,.any,.any,.any,.any,.any,.any,.any,.any,.any,.any,.any,.any,.any,.any,.any,.any,.any,.any],[[.past W ms],svB K,shaT 1 0 first steps,scS 2 E 8 S.length ca,shaT 1 0 first steps,scS 4 E 9 S.length cb,[.row c0 (bytesF 32 (L E))],lsC S cl,lsC S ca,lsC S cb]⟩,
  fun x=>match x with
  | none=>True
  | some (k,S,cl,ca,cb)=>1≤k∧k≤n∧S.length≤400*k∧S.length≠0∧S.length≤cl∧S.length≤ca∧S.length≤cb,
  fun x=>match x with
  | none=>n+1
  | some (k,_,_,_,_)=>n-k,⟨none,[0,1,2,3,4,5,7,7,7,7],⟨⟨rfl,rfl,rfl⟩,?_⟩,trivial⟩,fun x hx=>?_⟩
 ·(repeat first|exact trivial|refine ent1 ?_)
  refine eqC_bts ?_
  (repeat first|exact trivial|refine ent1 ?_)
  refine ⟨fun j hj=>eqC_bytes hfE j,?_⟩
  (repeat first|exact trivial|refine ent1 ?_)
 rcases x with _|⟨k,S,cl,ca,cb⟩
 ·show vc _ _ _ _
  refine vc_cut (fun P=>P ⟨[.a (.c (svC 1 K)),.a (.c (.slc a n c)),.a (.c (.slc aM nM cM)),.any,.any,.any,.a (.c (.bool (false))),.a (.c (.p 3 0 0)),.a (.c (.p 5 0 0)),.a (.c (.sl 6 0 0 32 c0)),.a (.c (.slc none 0 0)),.any,.any,.any,.any,.any,.any,.any,.any,.any,.any,.any,.any,.any,.any,.any,.any,.any,.any,.any,.any,.any,.any,.any,.any,.any,.any,.any,.any,.any,.any,.any,.any,.any,.a (.c (.slc a n c)),.a (.c (.int .i64 (↑n))),.a (.c (.int .i64 (0))),.a (.c (.bool ((decide ((0:Int)<(n:Int)))))),.any,.any,.any,.any,.any,.any,.any,.any,.any,.any,.any,.any,.any,.any,.any,.any,.any,.any,.any,.any,.any,.any,.any,.any,.any,.any,.any,.any,.any,.any,.any,.any,.any,.any,.any,.any,.any,.any,.any,.any,.any,.any,.any,.any,.any,.any,.any,.any,.any,.any,.any,.any,.any,.any,.any,.any,.any,.any,.any,.any,.any,.any,.any,.any,.any,.any,.any,.any,.any,.any,.any,.any,.any,.any,.any,.any,.any,.any,.any,.any,.any,.any,.any,.any,.any,.any,.any,.any,.any,.any,.any,.any,.any,.any,.any,.any,.any,.any,.any,.any,.any,.any,.any,.any,.any,.any,.any,.any,.any,.any,.any,.any,.any,.any,.any,.any,.any,.any,.any,.any,.any,.any,.any,.any,.any,.any,.any,.any,.any,.any,.any,.any,.any,.any,.any,.any,.any,.any,.any],[[.past W ms],svB K,shaT 1 0 first steps,scN 2 E,shaT 1 0 first steps,scN 4 E,[.row c0 (bytesF 32 (L E))],[],[],[]]⟩) (fun P key=>?_) ?_
  ·exact key
  show vc _ _ _ _
  refine vc_cut (fun P=>decide ((0:Int)<(n:Int))=true→∀ (v47:SV),P ⟨[.a (.c (svC 1 K)),.a (.c (.slc a n c)),.a (.c (.slc aM nM cM)),.any,.any,.any,.a (.c (.bool (false))),.a (.c (.p 3 0 0)),.a (.c (.p 5 0 0)),.a (.c (.sl 6 0 0 32 c0)),.a (.c (.slc none 0 0)),.any,.any,.any,.any,.any,.any,.any,.any,.any,.any,.any,.any,.any,.any,.any,.any,.any,.any,.any,.any,.any,.any,.any,.any,.any,.any,.any,.any,.any,.any,.any,.any,.any,.a (.c (.slc a n c)),.a (.c (.int .i64 (↑n))),.a (.c (.int .i64 (0))),v47,.any,.any,.any,.any,.any,.any,.any,.any,.any,.any,.any,.any,.any,.any,.any,.any,.any,.any,.any,.any,.any,.any,.any,.any,.any,.any,.any,.any,.any,.any,.any,.any,.any,.any,.any,.any,.any,.any,.any,.any,.any,.any,.any,.any,.any,.any,.any,.any,.any,.any,.any,.any,.any,.any,.any,.any,.any,.any,.any,.any,.any,.any,.any,.any,.any,.any,.any,.any,.any,.any,.any,.any,.any,.any,.any,.any,.any,.any,.any,.any,.any,.any,.any,.any,.any,.any,.any,.any,.any,.any,.any,.any,.any,.any,.any,.any,.any,.any,.any,.any,.any,.any,.any,.any,.any,.any,.any,.any,.any,.any,.any,.any,.any,.any,.any,.any,.any,.any,.any,.any,.any,.any,.any,.any,.any,.any,.any,.any,.any,.any,.any,.any,.any,.any,.any,.any,.any,.any,.any],[[.past W ms],svB K,shaT 1 0 first steps,scN 2 E,shaT 1 0 first steps,scN 4 E,[.row c0 (bytesF 32 (L E))],[],[],[]]⟩) (fun P key=>?_) ?_
  ·show _∧_
   refine And.intro (fun h=>key h _) (fun h=>?_)
   exact keyL.1 _ _ _ _
  intro hlt v47
  show vc _ _ _ _
  refine vc_inB ?_
  have hkn:0<n:=by have:(0:Int)<(n:Int):=of_decide_eq_true hlt; omega
  cases ha:a with
  | none=>have:=hms.nil ha; have:=hms.le; omega
  | some A =>
  obtain ⟨x,aS,nS,cS,him,hxr,hxm,hb,hxs⟩:=hms.elt A ha 0 hkn
  subst ha
  refine vc_assoc (vc_assoc (vc_cut (fun P=>∀ (kk:BitVec 8) (v11 v48 v49 v50 v51 v52 v53 v54 v55 v56 v57 v58 v59 v60:SV),P ⟨[.a (.c (svC 1 K)),.a (.c (.slc (some A) n c)),.a (.c (.slc aM nM cM)),.any,.any,.any,.a (.c (.bool (false))),.a (.c (.p 3 0 0)),.a (.c (.p 5 0 0)),.a (.c (.sl 6 0 0 32 c0)),.a (.c (.slc none 0 0)),v11,.a (.c (.p 10 0 0)),.a (.c (.w8 (kk))),.any,.any,.any,.any,.any,.any,.any,.any,.any,.any,.any,.any,.any,.any,.any,.any,.any,.any,.any,.any,.any,.any,.any,.any,.any,.any,.any,.any,.any,.any,.a (.c (.slc (some A) n c)),.a (.c (.int .i64 (↑n))),.a (.c (.int .i64 (0))),v47,v48,v49,v50,v51,v52,v53,v54,v55,v56,v57,v58,v59,v60,.any,.any,.any,.any,.any,.any,.any,.any,.any,.any,.any,.any,.any,.any,.any,.any,.any,.any,.any,.any,.any,.any,.any,.any,.any,.any,.any,.any,.any,.any,.any,.any,.any,.any,.any,.any,.any,.any,.any,.any,.any,.any,.any,.any,.any,.any,.any,.any,.any,.any,.any,.any,.any,.any,.any,.any,.any,.any,.any,.any,.any,.any,.any,.any,.any,.any,.any,.any,.any,.any,.any,.any,.any,.any,.any,.any,.any,.any,.any,.any,.any,.any,.any,.any,.any,.any,.any,.any,.any,.any,.any,.any,.any,.any,.any,.any,.any,.any,.any,.any,.any,.any,.any,.any,.any,.any,.any,.any,.any,.any,.any,.any,.any,.any,.any,.any,.any,.any,.any,.any,.any,.any,.any,.any,.any,.any],[[.past W ms],svB K,shaT 1 0 first steps,scN 2 E,shaT 1 0 first steps,scN 4 E,[.row c0 (bytesF 32 (L E))],[],[],[],msR x aS cS]⟩) (fun P key=>?_) ?_))
  ·show _∧_
   refine And.intro (show (0:Int)≤(0:Int)∧(0:Int)<(n:Int) by omega) ?_
   refine ⟨msR x aS cS,⟨RawAt.past (i:=0) rfl him,flat_msR _ _ _⟩,?_⟩
   refine And.intro (flat_msR _ _ _) ?_
   by_cases hk:0<nM
   ·have ek:decide ((0:Int)<(nM:Int))=true:=decide_eq_true (by omega)
    have hl:=hM.n1
    cases haM:aM with
    | none=>subst haM; have:=hM.nil_.1; omega
    | some AM =>
    subst haM
    have hcM:=hM.le
    (repeat show _∧_;first|refine yr ?_|refine yt ?_|refine yf ?_|refine yt ?_ (by first|decide|(rw[ek];decide))|refine yf ?_ (by first|decide|(rw[ek];decide))|refine yo ?_)
    refine loadR (i:=0) rfl (hM.im AM rfl (by omega)) (j:=0*1) (map_get? (show lM[0*1]?=some (L lM 0) by rw [Nat.mul_one,List.getElem?_eq_getElem (by omega),L_lt (by omega)])) ?_
    (repeat show _∧_;first|refine yr ?_|refine yt ?_|refine yf ?_|refine yo ?_)
    exact key _ _ _ _ _ _ _ _ _ _ _ _ _ _ _
   ·have ek:decide ((0:Int)<(nM:Int))=false:=decide_eq_false (by omega)
    (repeat show _∧_;first|refine yr ?_|refine yt ?_|refine yf ?_|refine yt ?_ (by first|decide|(rw[ek];decide))|refine yf ?_ (by first|decide|(rw[ek];decide))|refine yo ?_)
    exact key _ _ _ _ _ _ _ _ _ _ _ _ _ _ _
  intro kk v11 v48 v49 v50 v51 v52 v53 v54 v55 v56 v57 v58 v59 v60
  show vc _ _ _ _
  refine vc_cut (fun P=>x.p.s.l.length≤100→∀ (v61 v62 v63 v64 v65:SV),P ⟨[.a (.c (svC 1 K)),.a (.c (.slc (some A) n c)),.a (.c (.slc aM nM cM)),.any,.any,.any,.a (.c (.bool (false))),.a (.c (.p 3 0 0)),.a (.c (.p 5 0 0)),.a (.c (.sl 6 0 0 32 c0)),.a (.c (.slc none 0 0)),v11,.a (.c (.p 10 0 0)),.a (.c (.w8 (kk))),.any,.any,.any,.any,.any,.any,.any,.any,.any,.any,.any,.any,.any,.any,.any,.any,.any,.any,.any,.any,.any,.any,.any,.any,.any,.any,.any,.any,.any,.any,.a (.c (.slc (some A) n c)),.a (.c (.int .i64 (↑n))),.a (.c (.int .i64 (0))),v47,v48,v49,v50,v51,v52,v53,v54,v55,v56,v57,v58,v59,v60,v61,v62,v63,v64,v65,.any,.any,.any,.any,.any,.any,.any,.any,.any,.any,.any,.any,.any,.any,.any,.any,.any,.any,.any,.any,.any,.any,.any,.any,.any,.any,.any,.any,.any,.any,.any,.any,.any,.any,.any,.any,.any,.any,.any,.any,.any,.any,.any,.any,.any,.any,.any,.any,.any,.any,.any,.any,.any,.any,.any,.any,.any,.any,.any,.any,.any,.any,.any,.any,.any,.any,.any,.any,.any,.any,.any,.any,.any,.any,.any,.any,.any,.any,.any,.any,.any,.any,.any,.any,.any,.any,.any,.any,.any,.any,.any,.any,.any,.any,.any,.any,.any,.any,.any,.any,.any,.any,.any,.any,.any,.any,.any,.any,.any,.any,.any,.any,.any,.any,.any,.any,.any,.any,.any,.any,.any],[[.past W ms],svB K,shaT 1 0 first steps,scN 2 E,shaT 1 0 first steps,scN 4 E,[.row c0 (bytesF 32 (L E))],[],[],[],msR x aS cS]⟩) (fun P key=>?_) ?_
  ·by_cases hS:100<x.p.s.l.length
   ·have eS:decide ((100:Int)<(x.p.s.l.length:Int))=true:=decide_eq_true (by omega)
    (repeat show _∧_;first|refine yr ?_|refine yt ?_|refine yf ?_|refine yt ?_ (by first|decide|(rw[eS];decide))|refine yf ?_ (by first|decide|(rw[eS];decide))|refine yo ?_)
    refine ⟨.a (.c (.bool true)),[[.past W ms],svB K],⟨[0,1],⟨rfl,rfl,rfl⟩,?_⟩,rfl⟩
    (repeat first|exact trivial|refine ent1 ?_)
    refine eqC_bts ?_
    (repeat first|exact trivial|refine ent1 ?_)
   have eS:decide ((100:Int)<(x.p.s.l.length:Int))=false:=decide_eq_false (by omega)
   (repeat show _∧_;first|refine yr ?_|refine yt ?_|refine yf ?_|refine yt ?_ (by first|decide|(rw[eS];decide))|refine yf ?_ (by first|decide|(rw[eS];decide))|refine yo ?_)
   exact key (by omega) _ _ _ _ _
  intro hS v61 v62 v63 v64 v65
  show vc _ _ _ _
  have hx':x.Ok:=⟨hxr,by rw [hxs]; exact hb.okB (by omega),hxm⟩
  refine vc_cut (fun P=>∀ (z:Ms) (a':Option Addr) (c':Nat) (v66 v67 v68:SV),BsAt W ms a' z.p.s.l.length c' z.p.s.l→z.Ok→errMs z=0→bare z→P ⟨[.a (.c (svC 1 K)),.a (.c (.slc (some A) n c)),.a (.c (.slc aM nM cM)),.any,.any,.any,.a (.c (.bool (false))),.a (.c (.p 3 0 0)),.a (.c (.p 5 0 0)),.a (.c (.sl 6 0 0 32 c0)),.a (.c (.slc none 0 0)),v11,.a (.c (.p 10 0 0)),.a (.c (.w8 (kk))),.a (.c (.p 11 0 0)),.any,.any,.any,.any,.any,.any,.any,.any,.any,.any,.any,.any,.any,.any,.any,.any,.any,.any,.any,.any,.any,.any,.any,.any,.any,.any,.any,.any,.any,.a (.c (.slc (some A) n c)),.a (.c (.int .i64 (↑n))),.a (.c (.int .i64 (0))),v47,v48,v49,v50,v51,v52,v53,v54,v55,v56,v57,v58,v59,v60,v61,v62,v63,v64,v65,v66,v67,v68,.any,.any,.any,.any,.any,.any,.any,.any,.any,.any,.any,.any,.any,.any,.any,.any,.any,.any,.any,.any,.any,.any,.any,.any,.any,.any,.any,.any,.any,.any,.any,.any,.any,.any,.any,.any,.any,.any,.any,.any,.any,.any,.any,.any,.any,.any,.any,.any,.any,.any,.any,.any,.any,.any,.any,.any,.any,.any,.any,.any,.any,.any,.any,.any,.any,.any,.any,.any,.any,.any,.any,.any,.any,.any,.any,.any,.any,.any,.any,.any,.any,.any,.any,.any,.any,.any,.any,.any,.any,.any,.any,.any,.any,.any,.any,.any,.any,.any,.any,.any,.any,.any,.any,.any,.any,.any,.any,.any,.any,.any,.any,.any,.any,.any,.any,.any,.any,.any],[[.past W ms],svB K,shaT 1 0 first steps,scN 2 E,shaT 1 0 first steps,scN 4 E,[.row c0 (bytesF 32 (L E))],[],[],[],msR x aS cS,msR z a' c']⟩) (fun P key=>?_) ?_
  ·(repeat show _∧_;first|refine yr ?_|refine yt ?_|refine yf ?_|refine yo ?_)
   refine call_same (fn_lhfitR x hb hxr hxm kk) [0] rfl (by (repeat first|exact trivial|refine ent1 ?_)) (by (repeat first|exact trivial|refine ent1 ?_)) (fun _ _=>trivial) ?_
   rintro y hs' ⟨a',c',hb',rfl,rfl⟩
   obtain ⟨fo,fe,fb⟩:=fitMs_ok hx' kk
   (repeat show _∧_;first|refine yr ?_|refine yt ?_|refine yf ?_|refine yo ?_)
   exact key _ a' c' _ _ _ hb' fo fe fb
  intro z a' c' v66 v67 v68 hb' fo fe fb
  show vc _ _ _ _
  refine vc_cut (fun P=>∀ (V:Bs) (cV cVa:Nat) (f1 f2:Nat→SC) (v69 v70 v71 v72 v73 v74:SV),V=openMs z++hmarkL E z.k [] (openMs z)→V.length≤cV→V.length≤cVa→(∀ i,i<V.length→f1 i=.w8 (L V i))→(∀ i,i<V.length→f2 i=.w8 (L V i))→P ⟨[.a (.c (svC 1 K)),.a (.c (.slc (some A) n c)),.a (.c (.slc aM nM cM)),.any,.any,.any,.a (.c (.bool (false))),.a (.c (.p 3 0 0)),.a (.c (.p 5 0 0)),.a (.c (.sl 6 0 0 32 c0)),.a (.c (.slc none 0 0)),v11,.a (.c (.p 10 0 0)),.a (.c (.w8 (kk))),.a (.c (.p 11 0 0)),.a (.c (.sl 12 0 0 V.length cV)),.a (.c (.int .i64 (0))),.any,.any,.any,.any,.any,.any,.any,.any,.any,.any,.any,.any,.any,.any,.any,.any,.any,.any,.any,.any,.any,.any,.any,.any,.any,.any,.any,.a (.c (.slc (some A) n c)),.a (.c (.int .i64 (↑n))),.a (.c (.int .i64 (0))),v47,v48,v49,v50,v51,v52,v53,v54,v55,v56,v57,v58,v59,v60,v61,v62,v63,v64,v65,v66,v67,v68,v69,v70,v71,v72,v73,v74,.any,.any,.any,.any,.any,.any,.any,.any,.any,.any,.any,.any,.any,.any,.any,.any,.any,.any,.any,.any,.any,.any,.any,.any,.any,.any,.any,.any,.any,.any,.any,.any,.any,.any,.any,.any,.any,.any,.any,.any,.any,.any,.any,.any,.any,.any,.any,.any,.any,.any,.any,.any,.any,.any,.any,.any,.any,.any,.any,.any,.any,.any,.any,.any,.any,.any,.any,.any,.any,.any,.any,.any,.any,.any,.any,.any,.any,.any,.any,.any,.any,.any,.any,.any,.any,.any,.any,.any,.any,.any,.any,.any,.any,.any,.any,.any,.any,.any,.any,.any,.any,.any,.any,.any,.any,.any,.any,.any,.any,.any,.any,.any],[[.past W ms],svB K,shaT 1 0 first steps,scS 2 E 13 V.length cVa,shaT 1 0 first steps,scN 4 E,[.row c0 (bytesF 32 (L E))],[],[],[],msR x aS cS,msR z a' c',[.row cV f1],[.row cVa f2]]⟩) (fun P key=>?_) ?_
  ·(repeat show _∧_;first|refine yr ?_|refine yt ?_|refine yf ?_|refine yo ?_)
   refine call_same (fn_hsay0R z hb' fo fe E lE 1#32 first steps (.inr ⟨rfl,rfl,rfl⟩)) [0,3,2] rfl (by (repeat first|exact trivial|refine ent1 ?_)) (by (repeat first|exact trivial|refine ent1 ?_)) (fun _ _=>trivial) ?_
   rintro y hs' ⟨V,cV,cVa,hV,hcV,hcVa,rfl,rfl⟩
   (repeat show _∧_;first|refine yr ?_|refine yt ?_|refine yf ?_|refine yo ?_)
   exact key V cV cVa _ _ _ _ _ _ _ _ hV hcV hcVa (fun i hi=>by rw [bytesF_lt hi]; rfl) (fun i hi=>by rw [bytesF_lt hi]; rfl)
  intro V cV cVa f1 f2 v69 v70 v71 v72 v73 v74 hV hcV hcVa hf1 hf2
  show vc _ _ _ _
  obtain ⟨hVl,hVo⟩:=say_len fo fe hV
  refine vc_assoc (vc_cut (fun P=>∀ (v75 v76 v77 v78 v79 v80:SV),P ⟨[.a (.c (svC 1 K)),.a (.c (.slc (some A) n c)),.a (.c (.slc aM nM cM)),.any,.any,.any,.a (.c (.bool (false))),.a (.c (.p 3 0 0)),.a (.c (.p 5 0 0)),.a (.c (.sl 6 0 0 32 c0)),.a (.c (.slc none 0 0)),v11,.a (.c (.p 10 0 0)),.a (.c (.w8 (kk))),.a (.c (.p 11 0 0)),.a (.c (.sl 12 0 0 V.length cV)),.a (.c (.int .i64 (0))),.a (.c (.str ((labM z.k)))),.any,.any,.any,.any,.any,.any,.any,.any,.any,.any,.any,.any,.any,.any,.any,.any,.any,.any,.any,.any,.any,.any,.any,.any,.any,.any,.a (.c (.slc (some A) n c)),.a (.c (.int .i64 (↑n))),.a (.c (.int .i64 (0))),v47,v48,v49,v50,v51,v52,v53,v54,v55,v56,v57,v58,v59,v60,v61,v62,v63,v64,v65,v66,v67,v68,v69,v70,v71,v72,v73,v74,v75,v76,v77,v78,v79,v80,.any,.any,.any,.any,.any,.any,.any,.any,.any,.any,.any,.any,.any,.any,.any,.any,.any,.any,.any,.any,.any,.any,.any,.any,.any,.any,.any,.any,.any,.any,.any,.any,.any,.any,.any,.any,.any,.any,.any,.any,.any,.any,.any,.any,.any,.any,.any,.any,.any,.any,.any,.any,.any,.any,.any,.any,.any,.any,.any,.any,.any,.any,.any,.any,.any,.any,.any,.any,.any,.any,.any,.any,.any,.any,.any,.any,.any,.any,.any,.any,.any,.any,.any,.any,.any,.any,.any,.any,.any,.any,.any,.any,.any,.any,.any,.any,.any,.any,.any,.any,.any,.any,.any,.any,.any,.any],[[.past W ms],svB K,shaT 1 0 first steps,scS 2 E 13 V.length cVa,shaT 1 0 first steps,scN 4 E,[.row c0 (bytesF 32 (L E))],[],[],[],msR x aS cS,msR z a' c',[.row cV f1],[.row cVa f2]]⟩) (fun P key=>?_) ?_)
  ·rcases label_three z fe with hk|hk|hk
   ·have g1:decide (z.k=1#8)=true:=decide_eq_true hk
    have hl:labM z.k=[114,101,115,32,98,105,110,100,101,114]:=by rw [hk]; rfl
    rw [hl] at key
    (repeat show _∧_;first|refine yr ?_|refine yt ?_|refine yf ?_|refine yt ?_ (by first|decide|(rw[g1];decide))|refine yf ?_ (by first|decide|(rw[g1];decide))|refine yo ?_)
    exact key _ _ _ _ _ _
   ·have g1:decide (z.k=1#8)=false:=by rw [hk]; decide
    have g2:decide (z.k=2#8)=true:=decide_eq_true hk
    have hl:labM z.k=[115,32,118,101,114,105,102,121]:=by rw [hk]; rfl
    rw [hl] at key
    (repeat show _∧_;first|refine yr ?_|refine yt ?_|refine yf ?_|refine yt ?_ (by first|decide|(rw[g1];decide)|(rw[g2];decide))|refine yf ?_ (by first|decide|(rw[g1];decide)|(rw[g2];decide))|refine yo ?_)
    exact key _ _ _ _ _ _
   ·have g1:decide (z.k=1#8)=false:=by rw [hk]; decide
    have g2:decide (z.k=2#8)=false:=by rw [hk]; decide
    have hl:labM z.k=[99,32,102,105,110,105,115,104,101,100]:=by rw [hk]; rfl
    rw [hl] at key
    (repeat show _∧_;first|refine yr ?_|refine yt ?_|refine yf ?_|refine yt ?_ (by first|decide|(rw[g1];decide)|(rw[g2];decide))|refine yf ?_ (by first|decide|(rw[g1];decide)|(rw[g2];decide))|refine yo ?_)
    exact key _ _ _ _ _ _
  intro v75 v76 v77 v78 v79 v80
  show vc _ _ _ _
  refine vc_cut (fun P=>∀ (cB:Nat) (f3:Nat→SC) (v81 v82:SV),(openMs z).length≤cB→(∀ i,i<(openMs z).length→f3 i=.w8 (L (openMs z) i))→P ⟨[.a (.c (svC 1 K)),.a (.c (.slc (some A) n c)),.a (.c (.slc aM nM cM)),.any,.any,.any,.a (.c (.bool (false))),.a (.c (.p 3 0 0)),.a (.c (.p 5 0 0)),.a (.c (.sl 6 0 0 32 c0)),.a (.c (.slc none 0 0)),v11,.a (.c (.p 10 0 0)),.a (.c (.w8 (kk))),.a (.c (.p 11 0 0)),.a (.c (.sl 12 0 0 V.length cV)),.a (.c (.int .i64 (0))),.a (.c (.str ((labM z.k)))),.a (.c (.sl 14 0 0 (openMs z).length cB)),.any,.any,.any,.any,.any,.any,.any,.any,.any,.any,.any,.any,.any,.any,.any,.any,.any,.any,.any,.any,.any,.any,.any,.any,.any,.a (.c (.slc (some A) n c)),.a (.c (.int .i64 (↑n))),.a (.c (.int .i64 (0))),v47,v48,v49,v50,v51,v52,v53,v54,v55,v56,v57,v58,v59,v60,v61,v62,v63,v64,v65,v66,v67,v68,v69,v70,v71,v72,v73,v74,v75,v76,v77,v78,v79,v80,v81,v82,.any,.any,.any,.any,.any,.any,.any,.any,.any,.any,.any,.any,.any,.any,.any,.any,.any,.any,.any,.any,.any,.any,.any,.any,.any,.any,.any,.any,.any,.any,.any,.any,.any,.any,.any,.any,.any,.any,.any,.any,.any,.any,.any,.any,.any,.any,.any,.any,.any,.any,.any,.any,.any,.any,.any,.any,.any,.any,.any,.any,.any,.any,.any,.any,.any,.any,.any,.any,.any,.any,.any,.any,.any,.any,.any,.any,.any,.any,.any,.any,.any,.any,.any,.any,.any,.any,.any,.any,.any,.any,.any,.any,.any,.any,.any,.any,.any,.any,.any,.any,.any,.any,.any,.any],[[.past W ms],svB K,shaT 1 0 first steps,scS 2 E 13 V.length cVa,shaT 1 0 first steps,scN 4 E,[.row c0 (bytesF 32 (L E))],[],[],[],msR x aS cS,msR z a' c',[.row cV f1],[.row cVa f2],[.row cB f3]]⟩) (fun P key=>?_) ?_
  ·(repeat show _∧_;first|refine yr ?_|refine yt ?_|refine yf ?_|refine yo ?_)
   refine call_same (fn_hbodyR z hb' fo fe) [0] rfl (by (repeat first|exact trivial|refine ent1 ?_)) (by (repeat first|exact trivial|refine ent1 ?_)) (fun _ _=>trivial) ?_
   rintro y hs' ⟨cB,hcB,rfl,rfl⟩
   (repeat show _∧_;first|refine yr ?_|refine yt ?_|refine yf ?_|refine yo ?_)
   exact key cB _ _ _ hcB (fun i hi=>by rw [bytesF_lt hi]; rfl)
  intro cB f3 v81 v82 hcB hf3
  show vc _ _ _ _
  have hbl:=body_len fo fe
  refine vc_cut (fun P=>∀ (b15 b16 b17 b18:List Seg) (cQ:Nat) (f5:Nat→SC) (v83 v84 v85 v86 v87 v88 v89 v90 v91:SV),32≤cQ→(∀ i,i<32→f5 i=.w8 (L (hmarkL E z.k [] (openMs z)) i))→P ⟨[.a (.c (svC 1 K)),.a (.c (.slc (some A) n c)),.a (.c (.slc aM nM cM)),.any,.any,.any,.a (.c (.bool (false))),.a (.c (.p 3 0 0)),.a (.c (.p 5 0 0)),.a (.c (.sl 6 0 0 32 c0)),.a (.c (.slc none 0 0)),v11,.a (.c (.p 10 0 0)),.a (.c (.w8 (kk))),.a (.c (.p 11 0 0)),.a (.c (.sl 12 0 0 V.length cV)),.a (.c (.int .i64 (0))),.a (.c (.str ((labM z.k)))),.a (.c (.sl 14 0 0 (openMs z).length cB)),.a (.c (.sl 19 0 0 32 cQ)),.any,.any,.any,.any,.any,.any,.any,.any,.any,.any,.any,.any,.any,.any,.any,.any,.any,.any,.any,.any,.any,.any,.any,.any,.a (.c (.slc (some A) n c)),.a (.c (.int .i64 (↑n))),.a (.c (.int .i64 (0))),v47,v48,v49,v50,v51,v52,v53,v54,v55,v56,v57,v58,v59,v60,v61,v62,v63,v64,v65,v66,v67,v68,v69,v70,v71,v72,v73,v74,v75,v76,v77,v78,v79,v80,v81,v82,v83,v84,v85,v86,v87,v88,v89,v90,v91,.any,.any,.any,.any,.any,.any,.any,.any,.any,.any,.any,.any,.any,.any,.any,.any,.any,.any,.any,.any,.any,.any,.any,.any,.any,.any,.any,.any,.any,.any,.any,.any,.any,.any,.any,.any,.any,.any,.any,.any,.any,.any,.any,.any,.any,.any,.any,.any,.any,.any,.any,.any,.any,.any,.any,.any,.any,.any,.any,.any,.any,.any,.any,.any,.any,.any,.any,.any,.any,.any,.any,.any,.any,.any,.any,.any,.any,.any,.any,.any,.any,.any,.any,.any,.any,.any,.any,.any,.any,.any,.any,.any,.any,.any,.any],[[.past W ms],svB K,shaT 1 0 first steps,scS 2 E 13 V.length cVa,shaT 1 0 first steps,scN 4 E,[.row c0 (bytesF 32 (L E))],[],[],[],msR x aS cS,msR z a' c',[.row cV f1],[.row cVa f2],[.row cB f3],b15,b16,b17,b18,[.row cQ f5]]⟩) (fun P key=>?_) ?_
  ·(repeat show _∧_;first|refine yr ?_|refine yt ?_|refine yf ?_|refine yo ?_)
   refine call_same (fn_rderive false true c0 0 0 0 c0 0 E [] (labM z.k) (by omega) (by omega) (fun h=>Bool.noConfusion h) (by decide) (by decide) (fun _=>rfl) (by omega) (by decide) (labM_len _)) [6,8] rfl (by (repeat first|exact trivial|refine ent1 ?_)) ?_ (fun _ _=>trivial) ?_
   ·refine ⟨rfl,fun j hj=>eqC_win0 (f:=fun j=>bytesF 32 (L E) j) (fun i hi=>bytesF_lt (by omega)) j,?_⟩
    exact eqSegs_nil trivial
   rintro y hs' ⟨N1,c1,hN1,hcc1,rfl,rfl⟩
   (repeat show _∧_;first|refine yr ?_|refine yt ?_|refine yf ?_|refine yo ?_)
   intro c5 hc5
   refine ⟨by show 0+(openMs z).length≤cB; omega,?_⟩
   refine ⟨⟨hc5,by show 0+c5≤c5; omega,by show (0+0+(openMs z).length)*1≤140737488355328; omega⟩,fun c6 hc6=>?_⟩
   have r1:=fun (g:Nat→Nat) (i:Nat) (hi:i<32)=>dwin (g:=g) (s:=E) (said:=[]) (lab:=labM z.k) i hi
   have lD:=derv_len E (labM z.k) []
   have hmk:hmarkL E z.k [] (openMs z)=markL (dervL E (labM z.k) []) ([]++openMs z):=rfl
   rw [hmk] at key
   generalize dervL E (labM z.k) []=D at r1 lD key
   have hSO:([]++openMs z).length=0+0+(openMs z).length:=by rw [List.length_append]; simp
   (repeat show _∧_;first|refine yr ?_|refine yt ?_|refine yf ?_|refine yo ?_)
   refine call_same (fn_rmark false false N1 c6 0 0 c1 c6 D ([]++openMs z) (by omega) (by omega) (fun h=>Bool.noConfusion h) (by omega) (by omega) (fun h=>Bool.noConfusion h) (by omega) (by omega)) [15,18] rfl (by (repeat first|exact trivial|refine ent1 ?_)) ?_ (fun _ _=>trivial) ?_
   ·refine ⟨rfl,fun j hj=>eqC_win0 (fun i hi=>r1 _ i (by omega)) j,?_⟩
    refine ⟨rfl,fun j hj=>eqC_win0 (n:=([]++openMs z).length) (b:=L ([]++openMs z)) (fun i hi=>?_) j,trivial⟩
    rw [hSO] at hi
    exact app_row (l:=[]) (m:=openMs z) (n:=0+0) (k:=(openMs z).length) rfl rfl (fun i hi=>absurd hi (by omega)) (fun q hq=>hf3 q hq) i hi
   rintro y hs' ⟨cQ,rfl,rfl,hcQ⟩
   (repeat show _∧_;first|refine yr ?_|refine yt ?_|refine yf ?_|refine yo ?_)
   exact key _ _ _ _ cQ _ _ _ _ _ _ _ _ _ _ hcQ (fun i hi=>by rw [bytesF_lt hi]; rfl)
  intro b15 b16 b17 b18 cQ f5 v83 v84 v85 v86 v87 v88 v89 v90 v91 hcQ hf5
  show vc _ _ _ _
  have hmkl:(hmarkL E z.k [] (openMs z)).length=32:=hmark_len _ _ _ _
  refine vc_cut (fun P=>∀ (v92 v93 v94 v95 v96 v97 v98 v99 v100 v101 v102 v103:SV),P ⟨[.a (.c (svC 1 K)),.a (.c (.slc (some A) n c)),.a (.c (.slc aM nM cM)),.any,.any,.any,.a (.c (.bool (false))),.a (.c (.p 3 0 0)),.a (.c (.p 5 0 0)),.a (.c (.sl 6 0 0 32 c0)),.a (.c (.slc none 0 0)),v11,.a (.c (.p 10 0 0)),.a (.c (.w8 (kk))),.a (.c (.p 11 0 0)),.a (.c (.sl 12 0 0 V.length cV)),.a (.c (.int .i64 (0))),.a (.c (.str ((labM z.k)))),.a (.c (.sl 14 0 0 (openMs z).length cB)),.a (.c (.sl 19 0 0 32 cQ)),.any,.any,.any,.any,.any,.any,.any,.any,.any,.any,.any,.any,.any,.any,.any,.any,.any,.any,.any,.any,.any,.any,.any,.any,.a (.c (.slc (some A) n c)),.a (.c (.int .i64 (↑n))),.a (.c (.int .i64 (0))),v47,v48,v49,v50,v51,v52,v53,v54,v55,v56,v57,v58,v59,v60,v61,v62,v63,v64,v65,v66,v67,v68,v69,v70,v71,v72,v73,v74,v75,v76,v77,v78,v79,v80,v81,v82,v83,v84,v85,v86,v87,v88,v89,v90,v91,v92,v93,v94,v95,v96,v97,v98,v99,v100,v101,v102,v103,.any,.any,.any,.any,.any,.any,.any,.any,.any,.any,.any,.any,.any,.any,.any,.any,.any,.any,.any,.any,.any,.any,.any,.any,.any,.any,.any,.any,.any,.any,.any,.any,.any,.any,.any,.any,.any,.any,.any,.any,.any,.any,.any,.any,.any,.any,.any,.any,.any,.any,.any,.any,.any,.any,.any,.any,.any,.any,.any,.any,.any,.any,.any,.any,.any,.any,.any,.any,.any,.any,.any,.any,.any,.any,.any,.any,.any,.any,.any,.any,.any,.any,.any],[[.past W ms],svB K,shaT 1 0 first steps,scS 2 E 13 V.length cVa,shaT 1 0 first steps,scN 4 E,[.row c0 (bytesF 32 (L E))],[],[],[],msR x aS cS,msR z a' c',[.row cV f1],[.row cVa f2],[.row cB f3],b15,b16,b17,b18,[.row cQ f5]]⟩) (fun P key=>?_) ?_
  ·have e9:decide ((0:Int)≠0)=false:=by decide
   have k1:(!decide (U8 V=U8 (openMs z)++U8 (hmarkL E z.k [] (openMs z))))=false:=by rw [← U8_addT,← hV]; simp
   generalize hmarkL E z.k [] (openMs z)=mk at hV hf5 hmkl k1
   generalize openMs z=O at hV hVo hbl hcB hf3 k1 key
   (repeat show _∧_;first|refine yr ?_|refine yt ?_|refine yf ?_|refine yt ?_ (by first|decide|(rw[e9];decide))|refine yf ?_ (by first|decide|(rw[e9];decide))|refine yo ?_)
   refine ⟨by show 0+V.length≤cV; omega,U8 V,str_of rfl (fun i hi=>hf1 i hi),?_⟩
   (repeat show _∧_;first|refine yr ?_|refine yt ?_|refine yf ?_|refine yt ?_ (by first|decide|(rw[e9];decide))|refine yf ?_ (by first|decide|(rw[e9];decide))|refine yo ?_)
   refine ⟨by show 0+O.length≤cB; omega,U8 O,str_of rfl (fun i hi=>hf3 i hi),?_⟩
   (repeat show _∧_;first|refine yr ?_|refine yt ?_|refine yf ?_|refine yt ?_ (by first|decide|(rw[e9];decide))|refine yf ?_ (by first|decide|(rw[e9];decide))|refine yo ?_)
   refine ⟨by show 0+32≤cQ; omega,U8 mk,str_of hmkl (fun i hi=>hf5 i hi),?_⟩
   (repeat show _∧_;first|refine yr ?_|refine yt ?_|refine yf ?_|refine yt ?_ (by first|decide|(rw[e9];decide))|refine yf ?_ (by first|decide|(rw[e9];decide))|refine yo ?_)
   refine And.intro (show (U8 O).length+(U8 mk).length≤9223372036854775807 by rw [U8_len,U8_len]; omega) ?_
   (repeat show _∧_;first|refine yr ?_|refine yt ?_|refine yf ?_|refine yt ?_ (by first|decide|(rw[e9];decide)|(rw[k1];decide))|refine yf ?_ (by first|decide|(rw[e9];decide)|(rw[k1];decide))|refine yo ?_)
   exact key _ _ _ _ _ _ _ _ _ _ _ _
  intro v92 v93 v94 v95 v96 v97 v98 v99 v100 v101 v102 v103
  show vc _ _ _ _
  refine vc_cut (fun P=>∀ (z2:Ms) (g1:Nat→Nat) (cH:Nat) (f6:Nat→SC) (v104 v105 v106 v107 v108 v109:SV),sameMs z2 ⟨z.k,z.r,z.p,hmarkL E z.k [] (openMs z)⟩→z2.p.s.Ok→V.length≤cH→(∀ i,i<V.length→f6 i=.w8 (L V i))→P ⟨[.a (.c (svC 1 K)),.a (.c (.slc (some A) n c)),.a (.c (.slc aM nM cM)),.any,.any,.any,.a (.c (.bool (false))),.a (.c (.p 3 0 0)),.a (.c (.p 5 0 0)),.a (.c (.sl 6 0 0 32 c0)),.a (.c (.slc none 0 0)),v11,.a (.c (.p 10 0 0)),.a (.c (.w8 (kk))),.a (.c (.p 11 0 0)),.a (.c (.sl 12 0 0 V.length cV)),.a (.c (.int .i64 (0))),.a (.c (.str ((labM z.k)))),.a (.c (.sl 14 0 0 (openMs z).length cB)),.a (.c (.sl 19 0 0 32 cQ)),.a (.c (.p 22 0 0)),.a (.c (.int .i64 (0))),.any,.any,.any,.any,.any,.any,.any,.any,.any,.any,.any,.any,.any,.any,.any,.any,.any,.any,.any,.any,.any,.any,.a (.c (.slc (some A) n c)),.a (.c (.int .i64 (↑n))),.a (.c (.int .i64 (0))),v47,v48,v49,v50,v51,v52,v53,v54,v55,v56,v57,v58,v59,v60,v61,v62,v63,v64,v65,v66,v67,v68,v69,v70,v71,v72,v73,v74,v75,v76,v77,v78,v79,v80,v81,v82,v83,v84,v85,v86,v87,v88,v89,v90,v91,v92,v93,v94,v95,v96,v97,v98,v99,v100,v101,v102,v103,v104,v105,v106,v107,v108,v109,.any,.any,.any,.any,.any,.any,.any,.any,.any,.any,.any,.any,.any,.any,.any,.any,.any,.any,.any,.any,.any,.any,.any,.any,.any,.any,.any,.any,.any,.any,.any,.any,.any,.any,.any,.any,.any,.any,.any,.any,.any,.any,.any,.any,.any,.any,.any,.any,.any,.any,.any,.any,.any,.any,.any,.any,.any,.any,.any,.any,.any,.any,.any,.any,.any,.any,.any,.any,.any,.any,.any,.any,.any,.any,.any,.any,.any],[[.past W ms],svB K,shaT 1 0 first steps,scS 2 E 13 V.length cVa,shaT 1 0 first steps,scS 4 E 21 V.length cH,[.row c0 (bytesF 32 (L E))],[],[],[],msR x aS cS,msR z a' c',[.row cV f1],[.row cVa f2],[.row cB f3],b15,b16,b17,b18,[.row cQ f5],mpL g1 (svB z2.p.s),[.row cH f6],msC 20 z2]⟩) (fun P key=>?_) ?_
  ·(repeat show _∧_;first|refine yr ?_|refine yt ?_|refine yf ?_|refine yo ?_)
   refine call_same (fn_hhear0 ⟨false,cV,0,cV,V⟩ (own_ok hcV (by omega)) z fo fe fb E lE 1#32 first steps (.inr ⟨rfl,rfl,rfl⟩) hV) [12,5,4] rfl (by (repeat first|exact trivial|refine ent1 ?_)) ?_ (fun _ _=>trivial) ?_
   ·refine ⟨rfl,fun j hj=>eqC_win0 (fun i hi=>hf1 i hi) j,?_⟩
    (repeat first|exact trivial|refine ent1 ?_)
   rintro y hs' ⟨z2,cH,hz2,hz2o,hcH,rfl,rfl⟩
   (repeat show _∧_;first|refine yr ?_|refine yt ?_|refine yf ?_|refine yo ?_)
   exact key z2 _ cH _ _ _ _ _ _ _ hz2 hz2o hcH (fun i hi=>by rw [bytesF_lt hi]; rfl)
  intro z2 g1 cH f6 v104 v105 v106 v107 v108 v109 hz2 hz2o hcH hf6
  show vc _ _ _ _
  refine vc_cut (fun P=>∀ (v110 v111 v112 v113 v114 v115 v116 v117 v118 v119 v120 v121 v122 v123 v124 v125 v126 v127 v128 v129 v130 v131 v132 v133 v134 v135 v136 v137 v138 v139 v140 v141:SV),P ⟨[.a (.c (svC 1 K)),.a (.c (.slc (some A) n c)),.a (.c (.slc aM nM cM)),.any,.any,.any,.a (.c (.bool (false))),.a (.c (.p 3 0 0)),.a (.c (.p 5 0 0)),.a (.c (.sl 6 0 0 32 c0)),.a (.c (.slc none 0 0)),v11,.a (.c (.p 10 0 0)),.a (.c (.w8 (kk))),.a (.c (.p 11 0 0)),.a (.c (.sl 12 0 0 V.length cV)),.a (.c (.int .i64 (0))),.a (.c (.str ((labM z.k)))),.a (.c (.sl 14 0 0 (openMs z).length cB)),.a (.c (.sl 19 0 0 32 cQ)),.a (.c (.p 22 0 0)),.a (.c (.int .i64 (0))),.any,.any,.any,.any,.any,.any,.any,.any,.any,.any,.any,.any,.any,.any,.any,.any,.any,.any,.any,.any,.any,.any,.a (.c (.slc (some A) n c)),.a (.c (.int .i64 (↑n))),.a (.c (.int .i64 (0))),v47,v48,v49,v50,v51,v52,v53,v54,v55,v56,v57,v58,v59,v60,v61,v62,v63,v64,v65,v66,v67,v68,v69,v70,v71,v72,v73,v74,v75,v76,v77,v78,v79,v80,v81,v82,v83,v84,v85,v86,v87,v88,v89,v90,v91,v92,v93,v94,v95,v96,v97,v98,v99,v100,v101,v102,v103,v104,v105,v106,v107,v108,v109,v110,v111,v112,v113,v114,v115,v116,v117,v118,v119,v120,v121,v122,v123,v124,v125,v126,v127,v128,v129,v130,v131,v132,v133,v134,v135,v136,v137,v138,v139,v140,v141,.any,.any,.any,.any,.any,.any,.any,.any,.any,.any,.any,.any,.any,.any,.any,.any,.any,.any,.any,.any,.any,.any,.any,.any,.any,.any,.any,.any,.any,.any,.any,.any,.any,.any,.any,.any,.any,.any,.any,.any,.any,.any,.any,.any,.any],[[.past W ms],svB K,shaT 1 0 first steps,scS 2 E 13 V.length cVa,shaT 1 0 first steps,scS 4 E 21 V.length cH,[.row c0 (bytesF 32 (L E))],[],[],[],msR x aS cS,msR z a' c',[.row cV f1],[.row cVa f2],[.row cB f3],b15,b16,b17,b18,[.row cQ f5],mpL g1 (svB z2.p.s),[.row cH f6],msC 20 z2]⟩) (fun P key=>?_) ?_
  ·obtain ⟨hzk,hzr,hzp,hzm⟩:=hz2
   have hzk:z2.k=z.k:=hzk
   have hzr:z2.r=z.r:=hzr
   have hzp:sameP z2.p z.p:=hzp
   have hzm:z2.m=hmarkL E z.k [] (openMs z):=hzm
   have hzl:z2.m.length=32:=by rw [hzm]; exact hmkl
   rw [← hzm] at hf5
   have e9:decide ((0:Int)≠0)=false:=by decide
   have k2:decide (z2.k≠z.k)=false:=decide_eq_false fun h=>h hzk
   refine ⟨none,[],[(0,true),(1,true),(2,true),(3,true),(4,true),(5,true),(6,true),(7,true),(8,true),(9,true),(10,true),(11,true),(12,true),(13,true),(14,true),(15,true),(16,true),(17,true),(18,true),(19,true),(20,true),(21,false),(22,true),(23,true),(24,true),(25,true),(26,true),(27,true),(28,true),(29,true),(30,true),(31,true)],[],by kernel_rfl,?_⟩
   (repeat show _∧_;first|refine yr ?_|refine yt ?_|refine yf ?_|refine yt ?_ (by first|decide|(rw[e9];decide)|(rw[k2];decide))|refine yf ?_ (by first|decide|(rw[e9];decide)|(rw[k2];decide))|refine yo ?_)
   refine ⟨⟨rfl,rfl,fun j hj=>rfl,fun j hj=>rfl⟩,fun b1 hb1=>?_⟩
   have k3:(!b1)=false:=by rw [hb1.2 (fun j hj=>by rw [hzr])]; rfl
   (repeat show _∧_;first|refine yr ?_|refine yt ?_|refine yf ?_|refine yt ?_ (by first|decide|(rw[e9];decide)|(rw[k2];decide)|(rw[k3];decide))|refine yf ?_ (by first|decide|(rw[e9];decide)|(rw[k2];decide)|(rw[k3];decide))|refine yo ?_)
   refine call_same (fn_psameR z2.p z.p hz2o hb' fo.p.small) [20,0] rfl (by (repeat first|exact trivial|refine ent1 ?_)) (by refine eqC_btsM ?_; (repeat first|exact trivial|refine ent1 ?_)) (fun _ _=>trivial) ?_
   rintro y hs' ⟨rfl,rfl⟩
   have k5:(!decide (sameP z2.p z.p))=false:=by rw [decide_eq_true hzp]; rfl
   (repeat show _∧_;first|refine yr ?_|refine yt ?_|refine yf ?_|refine yt ?_ (by first|decide|(rw[e9];decide)|(rw[k2];decide)|(rw[k3];decide)|(rw[k5];decide))|refine yf ?_ (by first|decide|(rw[e9];decide)|(rw[k2];decide)|(rw[k3];decide)|(rw[k5];decide))|refine yo ?_)
   refine ⟨U8 z2.m,str_of hzl (fun q hq=>rfl),?_⟩
   (repeat show _∧_;first|refine yr ?_|refine yt ?_|refine yf ?_|refine yt ?_ (by first|decide|(rw[e9];decide)|(rw[k2];decide)|(rw[k3];decide)|(rw[k5];decide))|refine yf ?_ (by first|decide|(rw[e9];decide)|(rw[k2];decide)|(rw[k3];decide)|(rw[k5];decide))|refine yo ?_)
   refine ⟨by show 0+32≤cQ; omega,U8 z2.m,str_of hzl (fun i hi=>hf5 i hi),?_⟩
   have k6:(!decide (U8 z2.m=U8 z2.m))=false:=by simp
   (repeat show _∧_;first|refine yr ?_|refine yt ?_|refine yf ?_|refine yt ?_ (by first|decide|(rw[e9];decide)|(rw[k2];decide)|(rw[k3];decide)|(rw[k5];decide)|(rw[k6];decide))|refine yf ?_ (by first|decide|(rw[e9];decide)|(rw[k2];decide)|(rw[k3];decide)|(rw[k5];decide)|(rw[k6];decide))|refine yo ?_)
   exact key _ _ _ _ _ _ _ _ _ _ _ _ _ _ _ _ _ _ _ _ _ _ _ _ _ _ _ _ _ _ _ _
  intro v110 v111 v112 v113 v114 v115 v116 v117 v118 v119 v120 v121 v122 v123 v124 v125 v126 v127 v128 v129 v130 v131 v132 v133 v134 v135 v136 v137 v138 v139 v140 v141
  show vc _ _ _ _
  have hSV:V.length=0+V.length:=by rw [Nat.zero_add]
  (repeat show _∧_;first|refine yr ?_|refine yt ?_|refine yf ?_|refine yo ?_)
  refine ⟨by show 0+V.length≤cV; omega,?_⟩
  (repeat show _∧_;first|refine yr ?_|refine yt ?_|refine yf ?_|refine yo ?_)
  refine ⟨by show V.length*1≤140737488355328; omega,fun h0=>absurd h0 (by omega),fun _ c9 hc9=>?_⟩
  (repeat show _∧_;first|refine yr ?_|refine yt ?_|refine yf ?_|refine yo ?_)
  refine ⟨some (1,V,c9,cVa,cH),[0,1,2,3,4,5,6,23,13,21],⟨⟨rfl,rfl,rfl⟩,?_⟩,⟨by omega,by omega,by omega,by omega,by omega,by omega,by omega⟩,by show n-1<n+1; omega⟩
  (repeat first|exact trivial|refine ent1 ?_)
  refine eqC_bts ?_
  (repeat first|exact trivial|refine ent1 ?_)
  refine ⟨fun j hj=>eqC_bytes (fun i hi=>new_row (m:=V) (fun q hq=>hf1 q hq) i hi) j,?_⟩
  (repeat first|exact trivial|refine ent1 ?_)
  refine ⟨fun j hj=>eqC_bytes hf2 j,?_⟩
  (repeat first|exact trivial|refine ent1 ?_)
  refine ⟨fun j hj=>eqC_bytes hf6 j,?_⟩
  (repeat first|exact trivial|refine ent1 ?_)
 ·show vc _ _ _ _
  refine vc_cut (fun P=>P ⟨[.a (.c (svC 1 K)),.a (.c (.slc a n c)),.a (.c (.slc aM nM cM)),.any,.any,.any,.a (.c (.bool (false))),.a (.c (.p 3 0 0)),.a (.c (.p 5 0 0)),.a (.c (.sl 6 0 0 32 c0)),.a (.c (.sl 7 0 0 S.length cl)),.any,.any,.any,.any,.any,.any,.any,.any,.any,.any,.any,.any,.any,.any,.any,.any,.any,.any,.any,.any,.any,.any,.any,.any,.any,.any,.any,.any,.any,.any,.any,.any,.any,.a (.c (.slc a n c)),.a (.c (.int .i64 (↑n))),.a (.c (.int .i64 (↑k))),.a (.c (.bool ((decide ((k:Int)<(n:Int)))))),.any,.any,.any,.any,.any,.any,.any,.any,.any,.any,.any,.any,.any,.any,.any,.any,.any,.any,.any,.any,.any,.any,.any,.any,.any,.any,.any,.any,.any,.any,.any,.any,.any,.any,.any,.any,.any,.any,.any,.any,.any,.any,.any,.any,.any,.any,.any,.any,.any,.any,.any,.any,.any,.any,.any,.any,.any,.any,.any,.any,.any,.any,.any,.any,.any,.any,.any,.any,.any,.any,.any,.any,.any,.any,.any,.any,.any,.any,.any,.any,.any,.any,.any,.any,.any,.any,.any,.any,.any,.any,.any,.any,.any,.any,.any,.any,.any,.any,.any,.any,.any,.any,.any,.any,.any,.any,.any,.any,.any,.any,.any,.any,.any,.any,.any,.any,.any,.any,.any,.any,.any,.any,.any,.any,.any,.any,.any,.any,.any,.any,.any,.any,.any,.any,.any,.any,.any,.any,.any],[[.past W ms],svB K,shaT 1 0 first steps,scS 2 E 8 S.length ca,shaT 1 0 first steps,scS 4 E 9 S.length cb,[.row c0 (bytesF 32 (L E))],lsC S cl,lsC S ca,lsC S cb]⟩) (fun P key=>?_) ?_
  ·exact key
  show vc _ _ _ _
  refine vc_cut (fun P=>decide ((k:Int)<(n:Int))=true→∀ (v47:SV),P ⟨[.a (.c (svC 1 K)),.a (.c (.slc a n c)),.a (.c (.slc aM nM cM)),.any,.any,.any,.a (.c (.bool (false))),.a (.c (.p 3 0 0)),.a (.c (.p 5 0 0)),.a (.c (.sl 6 0 0 32 c0)),.a (.c (.sl 7 0 0 S.length cl)),.any,.any,.any,.any,.any,.any,.any,.any,.any,.any,.any,.any,.any,.any,.any,.any,.any,.any,.any,.any,.any,.any,.any,.any,.any,.any,.any,.any,.any,.any,.any,.any,.any,.a (.c (.slc a n c)),.a (.c (.int .i64 (↑n))),.a (.c (.int .i64 (↑k))),v47,.any,.any,.any,.any,.any,.any,.any,.any,.any,.any,.any,.any,.any,.any,.any,.any,.any,.any,.any,.any,.any,.any,.any,.any,.any,.any,.any,.any,.any,.any,.any,.any,.any,.any,.any,.any,.any,.any,.any,.any,.any,.any,.any,.any,.any,.any,.any,.any,.any,.any,.any,.any,.any,.any,.any,.any,.any,.any,.any,.any,.any,.any,.any,.any,.any,.any,.any,.any,.any,.any,.any,.any,.any,.any,.any,.any,.any,.any,.any,.any,.any,.any,.any,.any,.any,.any,.any,.any,.any,.any,.any,.any,.any,.any,.any,.any,.any,.any,.any,.any,.any,.any,.any,.any,.any,.any,.any,.any,.any,.any,.any,.any,.any,.any,.any,.any,.any,.any,.any,.any,.any,.any,.any,.any,.any,.any,.any,.any,.any,.any,.any,.any,.any,.any,.any,.any,.any,.any,.any],[[.past W ms],svB K,shaT 1 0 first steps,scS 2 E 8 S.length ca,shaT 1 0 first steps,scS 4 E 9 S.length cb,[.row c0 (bytesF 32 (L E))],lsC S cl,lsC S ca,lsC S cb]⟩) (fun P key=>?_) ?_
  ·show _∧_
   refine And.intro (fun h=>key h _) (fun h=>?_)
   exact keyL.2 k S cl ca cb _ _ _ _ hx
  intro hlt v47
  show vc _ _ _ _
  refine vc_inB ?_
  have hkn:k<n:=by have:(k:Int)<(n:Int):=of_decide_eq_true hlt; omega
  cases ha:a with
  | none=>have:=hms.nil ha; have:=hms.le; omega
  | some A =>
  obtain ⟨x,aS,nS,cS,him,hxr,hxm,hb,hxs⟩:=hms.elt A ha k hkn
  subst ha
  obtain ⟨h1',h2',h3',h4,h5,h6,h7⟩:=hx
  refine vc_assoc (vc_assoc (vc_cut (fun P=>∀ (kk:BitVec 8) (v11 v48 v49 v50 v51 v52 v53 v54 v55 v56 v57 v58 v59 v60:SV),P ⟨[.a (.c (svC 1 K)),.a (.c (.slc (some A) n c)),.a (.c (.slc aM nM cM)),.any,.any,.any,.a (.c (.bool (false))),.a (.c (.p 3 0 0)),.a (.c (.p 5 0 0)),.a (.c (.sl 6 0 0 32 c0)),.a (.c (.sl 7 0 0 S.length cl)),v11,.a (.c (.p 10 0 0)),.a (.c (.w8 (kk))),.any,.any,.any,.any,.any,.any,.any,.any,.any,.any,.any,.any,.any,.any,.any,.any,.any,.any,.any,.any,.any,.any,.any,.any,.any,.any,.any,.any,.any,.any,.a (.c (.slc (some A) n c)),.a (.c (.int .i64 (↑n))),.a (.c (.int .i64 (↑k))),v47,v48,v49,v50,v51,v52,v53,v54,v55,v56,v57,v58,v59,v60,.any,.any,.any,.any,.any,.any,.any,.any,.any,.any,.any,.any,.any,.any,.any,.any,.any,.any,.any,.any,.any,.any,.any,.any,.any,.any,.any,.any,.any,.any,.any,.any,.any,.any,.any,.any,.any,.any,.any,.any,.any,.any,.any,.any,.any,.any,.any,.any,.any,.any,.any,.any,.any,.any,.any,.any,.any,.any,.any,.any,.any,.any,.any,.any,.any,.any,.any,.any,.any,.any,.any,.any,.any,.any,.any,.any,.any,.any,.any,.any,.any,.any,.any,.any,.any,.any,.any,.any,.any,.any,.any,.any,.any,.any,.any,.any,.any,.any,.any,.any,.any,.any,.any,.any,.any,.any,.any,.any,.any,.any,.any,.any,.any,.any,.any,.any,.any,.any,.any,.any,.any,.any,.any,.any,.any,.any],[[.past W ms],svB K,shaT 1 0 first steps,scS 2 E 8 S.length ca,shaT 1 0 first steps,scS 4 E 9 S.length cb,[.row c0 (bytesF 32 (L E))],lsC S cl,lsC S ca,lsC S cb,msR x aS cS]⟩) (fun P key=>?_) ?_))
  ·show _∧_
   refine And.intro (show (0:Int)≤(k:Int)∧(k:Int)<(n:Int) by omega) ?_
   refine ⟨msR x aS cS,⟨RawAt.past (i:=0) rfl him,flat_msR _ _ _⟩,?_⟩
   refine And.intro (flat_msR _ _ _) ?_
   by_cases hk:k<nM
   ·have ek:decide ((k:Int)<(nM:Int))=true:=decide_eq_true (by omega)
    have hl:=hM.n1
    cases haM:aM with
    | none=>subst haM; have:=hM.nil_.1; omega
    | some AM =>
    subst haM
    have hcM:=hM.le
    (repeat show _∧_;first|refine yr ?_|refine yt ?_|refine yf ?_|refine yt ?_ (by first|decide|(rw[ek];decide))|refine yf ?_ (by first|decide|(rw[ek];decide))|refine yo ?_)
    refine loadR (i:=0) rfl (hM.im AM rfl (by omega)) (j:=k*1) (map_get? (show lM[k*1]?=some (L lM k) by rw [Nat.mul_one,List.getElem?_eq_getElem (by omega),L_lt (by omega)])) ?_
    (repeat show _∧_;first|refine yr ?_|refine yt ?_|refine yf ?_|refine yo ?_)
    exact key _ _ _ _ _ _ _ _ _ _ _ _ _ _ _
   ·have ek:decide ((k:Int)<(nM:Int))=false:=decide_eq_false (by omega)
    (repeat show _∧_;first|refine yr ?_|refine yt ?_|refine yf ?_|refine yt ?_ (by first|decide|(rw[ek];decide))|refine yf ?_ (by first|decide|(rw[ek];decide))|refine yo ?_)
    exact key _ _ _ _ _ _ _ _ _ _ _ _ _ _ _
  intro kk v11 v48 v49 v50 v51 v52 v53 v54 v55 v56 v57 v58 v59 v60
  show vc _ _ _ _
  refine vc_cut (fun P=>x.p.s.l.length≤100→∀ (v61 v62 v63 v64 v65:SV),P ⟨[.a (.c (svC 1 K)),.a (.c (.slc (some A) n c)),.a (.c (.slc aM nM cM)),.any,.any,.any,.a (.c (.bool (false))),.a (.c (.p 3 0 0)),.a (.c (.p 5 0 0)),.a (.c (.sl 6 0 0 32 c0)),.a (.c (.sl 7 0 0 S.length cl)),v11,.a (.c (.p 10 0 0)),.a (.c (.w8 (kk))),.any,.any,.any,.any,.any,.any,.any,.any,.any,.any,.any,.any,.any,.any,.any,.any,.any,.any,.any,.any,.any,.any,.any,.any,.any,.any,.any,.any,.any,.any,.a (.c (.slc (some A) n c)),.a (.c (.int .i64 (↑n))),.a (.c (.int .i64 (↑k))),v47,v48,v49,v50,v51,v52,v53,v54,v55,v56,v57,v58,v59,v60,v61,v62,v63,v64,v65,.any,.any,.any,.any,.any,.any,.any,.any,.any,.any,.any,.any,.any,.any,.any,.any,.any,.any,.any,.any,.any,.any,.any,.any,.any,.any,.any,.any,.any,.any,.any,.any,.any,.any,.any,.any,.any,.any,.any,.any,.any,.any,.any,.any,.any,.any,.any,.any,.any,.any,.any,.any,.any,.any,.any,.any,.any,.any,.any,.any,.any,.any,.any,.any,.any,.any,.any,.any,.any,.any,.any,.any,.any,.any,.any,.any,.any,.any,.any,.any,.any,.any,.any,.any,.any,.any,.any,.any,.any,.any,.any,.any,.any,.any,.any,.any,.any,.any,.any,.any,.any,.any,.any,.any,.any,.any,.any,.any,.any,.any,.any,.any,.any,.any,.any,.any,.any,.any,.any,.any,.any],[[.past W ms],svB K,shaT 1 0 first steps,scS 2 E 8 S.length ca,shaT 1 0 first steps,scS 4 E 9 S.length cb,[.row c0 (bytesF 32 (L E))],lsC S cl,lsC S ca,lsC S cb,msR x aS cS]⟩) (fun P key=>?_) ?_
  ·by_cases hS:100<x.p.s.l.length
   ·have eS:decide ((100:Int)<(x.p.s.l.length:Int))=true:=decide_eq_true (by omega)
    (repeat show _∧_;first|refine yr ?_|refine yt ?_|refine yf ?_|refine yt ?_ (by first|decide|(rw[eS];decide))|refine yf ?_ (by first|decide|(rw[eS];decide))|refine yo ?_)
    refine ⟨.a (.c (.bool true)),[[.past W ms],svB K],⟨[0,1],⟨rfl,rfl,rfl⟩,?_⟩,rfl⟩
    (repeat first|exact trivial|refine ent1 ?_)
    refine eqC_bts ?_
    (repeat first|exact trivial|refine ent1 ?_)
   have eS:decide ((100:Int)<(x.p.s.l.length:Int))=false:=decide_eq_false (by omega)
   (repeat show _∧_;first|refine yr ?_|refine yt ?_|refine yf ?_|refine yt ?_ (by first|decide|(rw[eS];decide))|refine yf ?_ (by first|decide|(rw[eS];decide))|refine yo ?_)
   exact key (by omega) _ _ _ _ _
  intro hS v61 v62 v63 v64 v65
  show vc _ _ _ _
  have hx':x.Ok:=⟨hxr,by rw [hxs]; exact hb.okB (by omega),hxm⟩
  refine vc_cut (fun P=>∀ (z:Ms) (a':Option Addr) (c':Nat) (v66 v67 v68:SV),BsAt W ms a' z.p.s.l.length c' z.p.s.l→z.Ok→errMs z=0→bare z→P ⟨[.a (.c (svC 1 K)),.a (.c (.slc (some A) n c)),.a (.c (.slc aM nM cM)),.any,.any,.any,.a (.c (.bool (false))),.a (.c (.p 3 0 0)),.a (.c (.p 5 0 0)),.a (.c (.sl 6 0 0 32 c0)),.a (.c (.sl 7 0 0 S.length cl)),v11,.a (.c (.p 10 0 0)),.a (.c (.w8 (kk))),.a (.c (.p 11 0 0)),.any,.any,.any,.any,.any,.any,.any,.any,.any,.any,.any,.any,.any,.any,.any,.any,.any,.any,.any,.any,.any,.any,.any,.any,.any,.any,.any,.any,.any,.a (.c (.slc (some A) n c)),.a (.c (.int .i64 (↑n))),.a (.c (.int .i64 (↑k))),v47,v48,v49,v50,v51,v52,v53,v54,v55,v56,v57,v58,v59,v60,v61,v62,v63,v64,v65,v66,v67,v68,.any,.any,.any,.any,.any,.any,.any,.any,.any,.any,.any,.any,.any,.any,.any,.any,.any,.any,.any,.any,.any,.any,.any,.any,.any,.any,.any,.any,.any,.any,.any,.any,.any,.any,.any,.any,.any,.any,.any,.any,.any,.any,.any,.any,.any,.any,.any,.any,.any,.any,.any,.any,.any,.any,.any,.any,.any,.any,.any,.any,.any,.any,.any,.any,.any,.any,.any,.any,.any,.any,.any,.any,.any,.any,.any,.any,.any,.any,.any,.any,.any,.any,.any,.any,.any,.any,.any,.any,.any,.any,.any,.any,.any,.any,.any,.any,.any,.any,.any,.any,.any,.any,.any,.any,.any,.any,.any,.any,.any,.any,.any,.any,.any,.any,.any,.any,.any,.any],[[.past W ms],svB K,shaT 1 0 first steps,scS 2 E 8 S.length ca,shaT 1 0 first steps,scS 4 E 9 S.length cb,[.row c0 (bytesF 32 (L E))],lsC S cl,lsC S ca,lsC S cb,msR x aS cS,msR z a' c']⟩) (fun P key=>?_) ?_
  ·(repeat show _∧_;first|refine yr ?_|refine yt ?_|refine yf ?_|refine yo ?_)
   refine call_same (fn_lhfitR x hb hxr hxm kk) [0] rfl (by (repeat first|exact trivial|refine ent1 ?_)) (by (repeat first|exact trivial|refine ent1 ?_)) (fun _ _=>trivial) ?_
   rintro y hs' ⟨a',c',hb',rfl,rfl⟩
   obtain ⟨fo,fe,fb⟩:=fitMs_ok hx' kk
   (repeat show _∧_;first|refine yr ?_|refine yt ?_|refine yf ?_|refine yo ?_)
   exact key _ a' c' _ _ _ hb' fo fe fb
  intro z a' c' v66 v67 v68 hb' fo fe fb
  show vc _ _ _ _
  refine vc_cut (fun P=>∀ (V:Bs) (cV cVa:Nat) (f1 f2:Nat→SC) (v69 v70 v71 v72 v73 v74:SV),V=openMs z++hmarkL E z.k S (openMs z)→V.length≤cV→(S++V).length≤cVa→(∀ i,i<V.length→f1 i=.w8 (L V i))→(∀ i,i<(S++V).length→f2 i=.w8 (L (S++V) i))→P ⟨[.a (.c (svC 1 K)),.a (.c (.slc (some A) n c)),.a (.c (.slc aM nM cM)),.any,.any,.any,.a (.c (.bool (false))),.a (.c (.p 3 0 0)),.a (.c (.p 5 0 0)),.a (.c (.sl 6 0 0 32 c0)),.a (.c (.sl 7 0 0 S.length cl)),v11,.a (.c (.p 10 0 0)),.a (.c (.w8 (kk))),.a (.c (.p 11 0 0)),.a (.c (.sl 12 0 0 V.length cV)),.a (.c (.int .i64 (0))),.any,.any,.any,.any,.any,.any,.any,.any,.any,.any,.any,.any,.any,.any,.any,.any,.any,.any,.any,.any,.any,.any,.any,.any,.any,.any,.any,.a (.c (.slc (some A) n c)),.a (.c (.int .i64 (↑n))),.a (.c (.int .i64 (↑k))),v47,v48,v49,v50,v51,v52,v53,v54,v55,v56,v57,v58,v59,v60,v61,v62,v63,v64,v65,v66,v67,v68,v69,v70,v71,v72,v73,v74,.any,.any,.any,.any,.any,.any,.any,.any,.any,.any,.any,.any,.any,.any,.any,.any,.any,.any,.any,.any,.any,.any,.any,.any,.any,.any,.any,.any,.any,.any,.any,.any,.any,.any,.any,.any,.any,.any,.any,.any,.any,.any,.any,.any,.any,.any,.any,.any,.any,.any,.any,.any,.any,.any,.any,.any,.any,.any,.any,.any,.any,.any,.any,.any,.any,.any,.any,.any,.any,.any,.any,.any,.any,.any,.any,.any,.any,.any,.any,.any,.any,.any,.any,.any,.any,.any,.any,.any,.any,.any,.any,.any,.any,.any,.any,.any,.any,.any,.any,.any,.any,.any,.any,.any,.any,.any,.any,.any,.any,.any,.any,.any],[[.past W ms],svB K,shaT 1 0 first steps,scS 2 E 13 (S++V).length cVa,shaT 1 0 first steps,scS 4 E 9 S.length cb,[.row c0 (bytesF 32 (L E))],lsC S cl,[],lsC S cb,msR x aS cS,msR z a' c',[.row cV f1],[.row cVa f2]]⟩) (fun P key=>?_) ?_
  ·(repeat show _∧_;first|refine yr ?_|refine yt ?_|refine yf ?_|refine yo ?_)
   refine call_same (fn_hsay1R S ca (by omega) h6 h4 z hb' fo fe E lE 1#32 first steps (.inr ⟨rfl,rfl,rfl⟩)) [0,3,2,8] rfl (by (repeat first|exact trivial|refine ent1 ?_)) (by (repeat first|exact trivial|refine ent1 ?_)) (fun _ _=>trivial) ?_
   rintro y hs' ⟨V,cV,cVa,hV,hcV,hcVa,rfl,rfl⟩
   (repeat show _∧_;first|refine yr ?_|refine yt ?_|refine yf ?_|refine yo ?_)
   exact key V cV cVa _ _ _ _ _ _ _ _ hV hcV hcVa (fun i hi=>by rw [bytesF_lt hi]; rfl) (fun i hi=>by rw [bytesF_lt hi]; rfl)
  intro V cV cVa f1 f2 v69 v70 v71 v72 v73 v74 hV hcV hcVa hf1 hf2
  show vc _ _ _ _
  obtain ⟨hVl,hVo⟩:=say_len fo fe hV
  refine vc_assoc (vc_cut (fun P=>∀ (v75 v76 v77 v78 v79 v80:SV),P ⟨[.a (.c (svC 1 K)),.a (.c (.slc (some A) n c)),.a (.c (.slc aM nM cM)),.any,.any,.any,.a (.c (.bool (false))),.a (.c (.p 3 0 0)),.a (.c (.p 5 0 0)),.a (.c (.sl 6 0 0 32 c0)),.a (.c (.sl 7 0 0 S.length cl)),v11,.a (.c (.p 10 0 0)),.a (.c (.w8 (kk))),.a (.c (.p 11 0 0)),.a (.c (.sl 12 0 0 V.length cV)),.a (.c (.int .i64 (0))),.a (.c (.str ((labM z.k)))),.any,.any,.any,.any,.any,.any,.any,.any,.any,.any,.any,.any,.any,.any,.any,.any,.any,.any,.any,.any,.any,.any,.any,.any,.any,.any,.a (.c (.slc (some A) n c)),.a (.c (.int .i64 (↑n))),.a (.c (.int .i64 (↑k))),v47,v48,v49,v50,v51,v52,v53,v54,v55,v56,v57,v58,v59,v60,v61,v62,v63,v64,v65,v66,v67,v68,v69,v70,v71,v72,v73,v74,v75,v76,v77,v78,v79,v80,.any,.any,.any,.any,.any,.any,.any,.any,.any,.any,.any,.any,.any,.any,.any,.any,.any,.any,.any,.any,.any,.any,.any,.any,.any,.any,.any,.any,.any,.any,.any,.any,.any,.any,.any,.any,.any,.any,.any,.any,.any,.any,.any,.any,.any,.any,.any,.any,.any,.any,.any,.any,.any,.any,.any,.any,.any,.any,.any,.any,.any,.any,.any,.any,.any,.any,.any,.any,.any,.any,.any,.any,.any,.any,.any,.any,.any,.any,.any,.any,.any,.any,.any,.any,.any,.any,.any,.any,.any,.any,.any,.any,.any,.any,.any,.any,.any,.any,.any,.any,.any,.any,.any,.any,.any,.any],[[.past W ms],svB K,shaT 1 0 first steps,scS 2 E 13 (S++V).length cVa,shaT 1 0 first steps,scS 4 E 9 S.length cb,[.row c0 (bytesF 32 (L E))],lsC S cl,[],lsC S cb,msR x aS cS,msR z a' c',[.row cV f1],[.row cVa f2]]⟩) (fun P key=>?_) ?_)
  ·rcases label_three z fe with hk|hk|hk
   ·have g1:decide (z.k=1#8)=true:=decide_eq_true hk
    have hl:labM z.k=[114,101,115,32,98,105,110,100,101,114]:=by rw [hk]; rfl
    rw [hl] at key
    (repeat show _∧_;first|refine yr ?_|refine yt ?_|refine yf ?_|refine yt ?_ (by first|decide|(rw[g1];decide))|refine yf ?_ (by first|decide|(rw[g1];decide))|refine yo ?_)
    exact key _ _ _ _ _ _
   ·have g1:decide (z.k=1#8)=false:=by rw [hk]; decide
    have g2:decide (z.k=2#8)=true:=decide_eq_true hk
    have hl:labM z.k=[115,32,118,101,114,105,102,121]:=by rw [hk]; rfl
    rw [hl] at key
    (repeat show _∧_;first|refine yr ?_|refine yt ?_|refine yf ?_|refine yt ?_ (by first|decide|(rw[g1];decide)|(rw[g2];decide))|refine yf ?_ (by first|decide|(rw[g1];decide)|(rw[g2];decide))|refine yo ?_)
    exact key _ _ _ _ _ _
   ·have g1:decide (z.k=1#8)=false:=by rw [hk]; decide
    have g2:decide (z.k=2#8)=false:=by rw [hk]; decide
    have hl:labM z.k=[99,32,102,105,110,105,115,104,101,100]:=by rw [hk]; rfl
    rw [hl] at key
    (repeat show _∧_;first|refine yr ?_|refine yt ?_|refine yf ?_|refine yt ?_ (by first|decide|(rw[g1];decide)|(rw[g2];decide))|refine yf ?_ (by first|decide|(rw[g1];decide)|(rw[g2];decide))|refine yo ?_)
    exact key _ _ _ _ _ _
  intro v75 v76 v77 v78 v79 v80
  show vc _ _ _ _
  refine vc_cut (fun P=>∀ (cB:Nat) (f3:Nat→SC) (v81 v82:SV),(openMs z).length≤cB→(∀ i,i<(openMs z).length→f3 i=.w8 (L (openMs z) i))→P ⟨[.a (.c (svC 1 K)),.a (.c (.slc (some A) n c)),.a (.c (.slc aM nM cM)),.any,.any,.any,.a (.c (.bool (false))),.a (.c (.p 3 0 0)),.a (.c (.p 5 0 0)),.a (.c (.sl 6 0 0 32 c0)),.a (.c (.sl 7 0 0 S.length cl)),v11,.a (.c (.p 10 0 0)),.a (.c (.w8 (kk))),.a (.c (.p 11 0 0)),.a (.c (.sl 12 0 0 V.length cV)),.a (.c (.int .i64 (0))),.a (.c (.str ((labM z.k)))),.a (.c (.sl 14 0 0 (openMs z).length cB)),.any,.any,.any,.any,.any,.any,.any,.any,.any,.any,.any,.any,.any,.any,.any,.any,.any,.any,.any,.any,.any,.any,.any,.any,.any,.a (.c (.slc (some A) n c)),.a (.c (.int .i64 (↑n))),.a (.c (.int .i64 (↑k))),v47,v48,v49,v50,v51,v52,v53,v54,v55,v56,v57,v58,v59,v60,v61,v62,v63,v64,v65,v66,v67,v68,v69,v70,v71,v72,v73,v74,v75,v76,v77,v78,v79,v80,v81,v82,.any,.any,.any,.any,.any,.any,.any,.any,.any,.any,.any,.any,.any,.any,.any,.any,.any,.any,.any,.any,.any,.any,.any,.any,.any,.any,.any,.any,.any,.any,.any,.any,.any,.any,.any,.any,.any,.any,.any,.any,.any,.any,.any,.any,.any,.any,.any,.any,.any,.any,.any,.any,.any,.any,.any,.any,.any,.any,.any,.any,.any,.any,.any,.any,.any,.any,.any,.any,.any,.any,.any,.any,.any,.any,.any,.any,.any,.any,.any,.any,.any,.any,.any,.any,.any,.any,.any,.any,.any,.any,.any,.any,.any,.any,.any,.any,.any,.any,.any,.any,.any,.any,.any,.any],[[.past W ms],svB K,shaT 1 0 first steps,scS 2 E 13 (S++V).length cVa,shaT 1 0 first steps,scS 4 E 9 S.length cb,[.row c0 (bytesF 32 (L E))],lsC S cl,[],lsC S cb,msR x aS cS,msR z a' c',[.row cV f1],[.row cVa f2],[.row cB f3]]⟩) (fun P key=>?_) ?_
  ·(repeat show _∧_;first|refine yr ?_|refine yt ?_|refine yf ?_|refine yo ?_)
   refine call_same (fn_hbodyR z hb' fo fe) [0] rfl (by (repeat first|exact trivial|refine ent1 ?_)) (by (repeat first|exact trivial|refine ent1 ?_)) (fun _ _=>trivial) ?_
   rintro y hs' ⟨cB,hcB,rfl,rfl⟩
   (repeat show _∧_;first|refine yr ?_|refine yt ?_|refine yf ?_|refine yo ?_)
   exact key cB _ _ _ hcB (fun i hi=>by rw [bytesF_lt hi]; rfl)
  intro cB f3 v81 v82 hcB hf3
  show vc _ _ _ _
  have hbl:=body_len fo fe
  have hSm:S.length≤1600:=by omega
  refine vc_cut (fun P=>∀ (b15 b16 b17 b18:List Seg) (cQ:Nat) (f5:Nat→SC) (v83 v84 v85 v86 v87 v88 v89 v90 v91:SV),32≤cQ→(∀ i,i<32→f5 i=.w8 (L (hmarkL E z.k S (openMs z)) i))→P ⟨[.a (.c (svC 1 K)),.a (.c (.slc (some A) n c)),.a (.c (.slc aM nM cM)),.any,.any,.any,.a (.c (.bool (false))),.a (.c (.p 3 0 0)),.a (.c (.p 5 0 0)),.a (.c (.sl 6 0 0 32 c0)),.a (.c (.sl 7 0 0 S.length cl)),v11,.a (.c (.p 10 0 0)),.a (.c (.w8 (kk))),.a (.c (.p 11 0 0)),.a (.c (.sl 12 0 0 V.length cV)),.a (.c (.int .i64 (0))),.a (.c (.str ((labM z.k)))),.a (.c (.sl 14 0 0 (openMs z).length cB)),.a (.c (.sl 19 0 0 32 cQ)),.any,.any,.any,.any,.any,.any,.any,.any,.any,.any,.any,.any,.any,.any,.any,.any,.any,.any,.any,.any,.any,.any,.any,.any,.a (.c (.slc (some A) n c)),.a (.c (.int .i64 (↑n))),.a (.c (.int .i64 (↑k))),v47,v48,v49,v50,v51,v52,v53,v54,v55,v56,v57,v58,v59,v60,v61,v62,v63,v64,v65,v66,v67,v68,v69,v70,v71,v72,v73,v74,v75,v76,v77,v78,v79,v80,v81,v82,v83,v84,v85,v86,v87,v88,v89,v90,v91,.any,.any,.any,.any,.any,.any,.any,.any,.any,.any,.any,.any,.any,.any,.any,.any,.any,.any,.any,.any,.any,.any,.any,.any,.any,.any,.any,.any,.any,.any,.any,.any,.any,.any,.any,.any,.any,.any,.any,.any,.any,.any,.any,.any,.any,.any,.any,.any,.any,.any,.any,.any,.any,.any,.any,.any,.any,.any,.any,.any,.any,.any,.any,.any,.any,.any,.any,.any,.any,.any,.any,.any,.any,.any,.any,.any,.any,.any,.any,.any,.any,.any,.any,.any,.any,.any,.any,.any,.any,.any,.any,.any,.any,.any,.any],[[.past W ms],svB K,shaT 1 0 first steps,scS 2 E 13 (S++V).length cVa,shaT 1 0 first steps,scS 4 E 9 S.length cb,[.row c0 (bytesF 32 (L E))],lsC S cl,[],lsC S cb,msR x aS cS,msR z a' c',[.row cV f1],[.row cVa f2],[.row cB f3],b15,b16,b17,b18,[.row cQ f5]]⟩) (fun P key=>?_) ?_
  ·(repeat show _∧_;first|refine yr ?_|refine yt ?_|refine yf ?_|refine yo ?_)
   refine call_same (fn_rderive false true c0 0 0 0 c0 0 E [] (labM z.k) (by omega) (by omega) (fun h=>Bool.noConfusion h) (by decide) (by decide) (fun _=>rfl) (by omega) (by decide) (labM_len _)) [6,8] rfl (by (repeat first|exact trivial|refine ent1 ?_)) ?_ (fun _ _=>trivial) ?_
   ·refine ⟨rfl,fun j hj=>eqC_win0 (f:=fun j=>bytesF 32 (L E) j) (fun i hi=>bytesF_lt (by omega)) j,?_⟩
    exact eqSegs_nil trivial
   rintro y hs' ⟨N1,c1,hN1,hcc1,rfl,rfl⟩
   (repeat show _∧_;first|refine yr ?_|refine yt ?_|refine yf ?_|refine yo ?_)
   refine ⟨by show 0+S.length≤cl; omega,?_⟩
   refine ⟨⟨Nat.le_refl _,Nat.le_refl _,by show (0+S.length)*1≤140737488355328; omega⟩,fun c5 hc5=>?_⟩
   refine ⟨by show 0+(openMs z).length≤cB; omega,?_⟩
   refine ⟨⟨hc5,by show 0+c5≤c5; omega,by show (0+S.length+(openMs z).length)*1≤140737488355328; omega⟩,fun c6 hc6=>?_⟩
   have r1:=fun (g:Nat→Nat) (i:Nat) (hi:i<32)=>dwin (g:=g) (s:=E) (said:=[]) (lab:=labM z.k) i hi
   have lD:=derv_len E (labM z.k) []
   have hmk:hmarkL E z.k S (openMs z)=markL (dervL E (labM z.k) []) (S++openMs z):=rfl
   rw [hmk] at key
   generalize dervL E (labM z.k) []=D at r1 lD key
   have hSO:(S++openMs z).length=0+S.length+(openMs z).length:=by rw [List.length_append]; simp
   (repeat show _∧_;first|refine yr ?_|refine yt ?_|refine yf ?_|refine yo ?_)
   refine call_same (fn_rmark false false N1 c6 0 0 c1 c6 D (S++openMs z) (by omega) (by omega) (fun h=>Bool.noConfusion h) (by omega) (by omega) (fun h=>Bool.noConfusion h) (by omega) (by omega)) [15,18] rfl (by (repeat first|exact trivial|refine ent1 ?_)) ?_ (fun _ _=>trivial) ?_
   ·refine ⟨rfl,fun j hj=>eqC_win0 (fun i hi=>r1 _ i (by omega)) j,?_⟩
    refine ⟨rfl,fun j hj=>eqC_win0 (n:=(S++openMs z).length) (b:=L (S++openMs z)) (fun i hi=>?_) j,trivial⟩
    rw [hSO] at hi
    exact app_row (l:=S) (m:=openMs z) (n:=0+S.length) (k:=(openMs z).length) (Nat.zero_add _).symm rfl (fun i hi=>app_row (l:=[]) (m:=S) (n:=0) (k:=S.length) rfl rfl (fun i hi=>absurd hi (by omega)) (fun q hq=>bytesF_lt hq) i hi) (fun q hq=>hf3 q hq) i hi
   rintro y hs' ⟨cQ,rfl,rfl,hcQ⟩
   (repeat show _∧_;first|refine yr ?_|refine yt ?_|refine yf ?_|refine yo ?_)
   exact key _ _ _ _ cQ _ _ _ _ _ _ _ _ _ _ hcQ (fun i hi=>by rw [bytesF_lt hi]; rfl)
  intro b15 b16 b17 b18 cQ f5 v83 v84 v85 v86 v87 v88 v89 v90 v91 hcQ hf5
  show vc _ _ _ _
  have hmkl:(hmarkL E z.k S (openMs z)).length=32:=hmark_len _ _ _ _
  refine vc_cut (fun P=>∀ (v92 v93 v94 v95 v96 v97 v98 v99 v100 v101 v102 v103:SV),P ⟨[.a (.c (svC 1 K)),.a (.c (.slc (some A) n c)),.a (.c (.slc aM nM cM)),.any,.any,.any,.a (.c (.bool (false))),.a (.c (.p 3 0 0)),.a (.c (.p 5 0 0)),.a (.c (.sl 6 0 0 32 c0)),.a (.c (.sl 7 0 0 S.length cl)),v11,.a (.c (.p 10 0 0)),.a (.c (.w8 (kk))),.a (.c (.p 11 0 0)),.a (.c (.sl 12 0 0 V.length cV)),.a (.c (.int .i64 (0))),.a (.c (.str ((labM z.k)))),.a (.c (.sl 14 0 0 (openMs z).length cB)),.a (.c (.sl 19 0 0 32 cQ)),.any,.any,.any,.any,.any,.any,.any,.any,.any,.any,.any,.any,.any,.any,.any,.any,.any,.any,.any,.any,.any,.any,.any,.any,.a (.c (.slc (some A) n c)),.a (.c (.int .i64 (↑n))),.a (.c (.int .i64 (↑k))),v47,v48,v49,v50,v51,v52,v53,v54,v55,v56,v57,v58,v59,v60,v61,v62,v63,v64,v65,v66,v67,v68,v69,v70,v71,v72,v73,v74,v75,v76,v77,v78,v79,v80,v81,v82,v83,v84,v85,v86,v87,v88,v89,v90,v91,v92,v93,v94,v95,v96,v97,v98,v99,v100,v101,v102,v103,.any,.any,.any,.any,.any,.any,.any,.any,.any,.any,.any,.any,.any,.any,.any,.any,.any,.any,.any,.any,.any,.any,.any,.any,.any,.any,.any,.any,.any,.any,.any,.any,.any,.any,.any,.any,.any,.any,.any,.any,.any,.any,.any,.any,.any,.any,.any,.any,.any,.any,.any,.any,.any,.any,.any,.any,.any,.any,.any,.any,.any,.any,.any,.any,.any,.any,.any,.any,.any,.any,.any,.any,.any,.any,.any,.any,.any,.any,.any,.any,.any,.any,.any],[[.past W ms],svB K,shaT 1 0 first steps,scS 2 E 13 (S++V).length cVa,shaT 1 0 first steps,scS 4 E 9 S.length cb,[.row c0 (bytesF 32 (L E))],lsC S cl,[],lsC S cb,msR x aS cS,msR z a' c',[.row cV f1],[.row cVa f2],[.row cB f3],b15,b16,b17,b18,[.row cQ f5]]⟩) (fun P key=>?_) ?_
  ·have e9:decide ((0:Int)≠0)=false:=by decide
   have k1:(!decide (U8 V=U8 (openMs z)++U8 (hmarkL E z.k S (openMs z))))=false:=by rw [← U8_addT,← hV]; simp
   generalize hmarkL E z.k S (openMs z)=mk at hV hf5 hmkl k1
   generalize openMs z=O at hV hVo hbl hcB hf3 k1 key
   (repeat show _∧_;first|refine yr ?_|refine yt ?_|refine yf ?_|refine yt ?_ (by first|decide|(rw[e9];decide))|refine yf ?_ (by first|decide|(rw[e9];decide))|refine yo ?_)
   refine ⟨by show 0+V.length≤cV; omega,U8 V,str_of rfl (fun i hi=>hf1 i hi),?_⟩
   (repeat show _∧_;first|refine yr ?_|refine yt ?_|refine yf ?_|refine yt ?_ (by first|decide|(rw[e9];decide))|refine yf ?_ (by first|decide|(rw[e9];decide))|refine yo ?_)
   refine ⟨by show 0+O.length≤cB; omega,U8 O,str_of rfl (fun i hi=>hf3 i hi),?_⟩
   (repeat show _∧_;first|refine yr ?_|refine yt ?_|refine yf ?_|refine yt ?_ (by first|decide|(rw[e9];decide))|refine yf ?_ (by first|decide|(rw[e9];decide))|refine yo ?_)
   refine ⟨by show 0+32≤cQ; omega,U8 mk,str_of hmkl (fun i hi=>hf5 i hi),?_⟩
   (repeat show _∧_;first|refine yr ?_|refine yt ?_|refine yf ?_|refine yt ?_ (by first|decide|(rw[e9];decide))|refine yf ?_ (by first|decide|(rw[e9];decide))|refine yo ?_)
   refine And.intro (show (U8 O).length+(U8 mk).length≤9223372036854775807 by rw [U8_len,U8_len]; omega) ?_
   (repeat show _∧_;first|refine yr ?_|refine yt ?_|refine yf ?_|refine yt ?_ (by first|decide|(rw[e9];decide)|(rw[k1];decide))|refine yf ?_ (by first|decide|(rw[e9];decide)|(rw[k1];decide))|refine yo ?_)
   exact key _ _ _ _ _ _ _ _ _ _ _ _
  intro v92 v93 v94 v95 v96 v97 v98 v99 v100 v101 v102 v103
  show vc _ _ _ _
  refine vc_cut (fun P=>∀ (z2:Ms) (g1:Nat→Nat) (cH:Nat) (f6:Nat→SC) (v104 v105 v106 v107 v108 v109:SV),sameMs z2 ⟨z.k,z.r,z.p,hmarkL E z.k S (openMs z)⟩→z2.p.s.Ok→(S++V).length≤cH→(∀ i,i<(S++V).length→f6 i=.w8 (L (S++V) i))→P ⟨[.a (.c (svC 1 K)),.a (.c (.slc (some A) n c)),.a (.c (.slc aM nM cM)),.any,.any,.any,.a (.c (.bool (false))),.a (.c (.p 3 0 0)),.a (.c (.p 5 0 0)),.a (.c (.sl 6 0 0 32 c0)),.a (.c (.sl 7 0 0 S.length cl)),v11,.a (.c (.p 10 0 0)),.a (.c (.w8 (kk))),.a (.c (.p 11 0 0)),.a (.c (.sl 12 0 0 V.length cV)),.a (.c (.int .i64 (0))),.a (.c (.str ((labM z.k)))),.a (.c (.sl 14 0 0 (openMs z).length cB)),.a (.c (.sl 19 0 0 32 cQ)),.a (.c (.p 22 0 0)),.a (.c (.int .i64 (0))),.any,.any,.any,.any,.any,.any,.any,.any,.any,.any,.any,.any,.any,.any,.any,.any,.any,.any,.any,.any,.any,.any,.a (.c (.slc (some A) n c)),.a (.c (.int .i64 (↑n))),.a (.c (.int .i64 (↑k))),v47,v48,v49,v50,v51,v52,v53,v54,v55,v56,v57,v58,v59,v60,v61,v62,v63,v64,v65,v66,v67,v68,v69,v70,v71,v72,v73,v74,v75,v76,v77,v78,v79,v80,v81,v82,v83,v84,v85,v86,v87,v88,v89,v90,v91,v92,v93,v94,v95,v96,v97,v98,v99,v100,v101,v102,v103,v104,v105,v106,v107,v108,v109,.any,.any,.any,.any,.any,.any,.any,.any,.any,.any,.any,.any,.any,.any,.any,.any,.any,.any,.any,.any,.any,.any,.any,.any,.any,.any,.any,.any,.any,.any,.any,.any,.any,.any,.any,.any,.any,.any,.any,.any,.any,.any,.any,.any,.any,.any,.any,.any,.any,.any,.any,.any,.any,.any,.any,.any,.any,.any,.any,.any,.any,.any,.any,.any,.any,.any,.any,.any,.any,.any,.any,.any,.any,.any,.any,.any,.any],[[.past W ms],svB K,shaT 1 0 first steps,scS 2 E 13 (S++V).length cVa,shaT 1 0 first steps,scS 4 E 21 (S++V).length cH,[.row c0 (bytesF 32 (L E))],lsC S cl,[],[],msR x aS cS,msR z a' c',[.row cV f1],[.row cVa f2],[.row cB f3],b15,b16,b17,b18,[.row cQ f5],mpL g1 (svB z2.p.s),[.row cH f6],msC 20 z2]⟩) (fun P key=>?_) ?_
  ·(repeat show _∧_;first|refine yr ?_|refine yt ?_|refine yf ?_|refine yo ?_)
   refine call_same (fn_hhear1 S cb (by omega) h7 h4 ⟨false,cV,0,cV,V⟩ (own_ok hcV (by omega)) z fo fe fb E lE 1#32 first steps (.inr ⟨rfl,rfl,rfl⟩) hV) [12,5,4,9] rfl (by (repeat first|exact trivial|refine ent1 ?_)) ?_ (fun _ _=>trivial) ?_
   ·refine ⟨rfl,fun j hj=>eqC_win0 (fun i hi=>hf1 i hi) j,?_⟩
    (repeat first|exact trivial|refine ent1 ?_)
   rintro y hs' ⟨z2,cH,hz2,hz2o,hcH,rfl,rfl⟩
   (repeat show _∧_;first|refine yr ?_|refine yt ?_|refine yf ?_|refine yo ?_)
   exact key z2 _ cH _ _ _ _ _ _ _ hz2 hz2o hcH (fun i hi=>by rw [bytesF_lt hi]; rfl)
  intro z2 g1 cH f6 v104 v105 v106 v107 v108 v109 hz2 hz2o hcH hf6
  show vc _ _ _ _
  refine vc_cut (fun P=>∀ (v110 v111 v112 v113 v114 v115 v116 v117 v118 v119 v120 v121 v122 v123 v124 v125 v126 v127 v128 v129 v130 v131 v132 v133 v134 v135 v136 v137 v138 v139 v140 v141:SV),P ⟨[.a (.c (svC 1 K)),.a (.c (.slc (some A) n c)),.a (.c (.slc aM nM cM)),.any,.any,.any,.a (.c (.bool (false))),.a (.c (.p 3 0 0)),.a (.c (.p 5 0 0)),.a (.c (.sl 6 0 0 32 c0)),.a (.c (.sl 7 0 0 S.length cl)),v11,.a (.c (.p 10 0 0)),.a (.c (.w8 (kk))),.a (.c (.p 11 0 0)),.a (.c (.sl 12 0 0 V.length cV)),.a (.c (.int .i64 (0))),.a (.c (.str ((labM z.k)))),.a (.c (.sl 14 0 0 (openMs z).length cB)),.a (.c (.sl 19 0 0 32 cQ)),.a (.c (.p 22 0 0)),.a (.c (.int .i64 (0))),.any,.any,.any,.any,.any,.any,.any,.any,.any,.any,.any,.any,.any,.any,.any,.any,.any,.any,.any,.any,.any,.any,.a (.c (.slc (some A) n c)),.a (.c (.int .i64 (↑n))),.a (.c (.int .i64 (↑k))),v47,v48,v49,v50,v51,v52,v53,v54,v55,v56,v57,v58,v59,v60,v61,v62,v63,v64,v65,v66,v67,v68,v69,v70,v71,v72,v73,v74,v75,v76,v77,v78,v79,v80,v81,v82,v83,v84,v85,v86,v87,v88,v89,v90,v91,v92,v93,v94,v95,v96,v97,v98,v99,v100,v101,v102,v103,v104,v105,v106,v107,v108,v109,v110,v111,v112,v113,v114,v115,v116,v117,v118,v119,v120,v121,v122,v123,v124,v125,v126,v127,v128,v129,v130,v131,v132,v133,v134,v135,v136,v137,v138,v139,v140,v141,.any,.any,.any,.any,.any,.any,.any,.any,.any,.any,.any,.any,.any,.any,.any,.any,.any,.any,.any,.any,.any,.any,.any,.any,.any,.any,.any,.any,.any,.any,.any,.any,.any,.any,.any,.any,.any,.any,.any,.any,.any,.any,.any,.any,.any],[[.past W ms],svB K,shaT 1 0 first steps,scS 2 E 13 (S++V).length cVa,shaT 1 0 first steps,scS 4 E 21 (S++V).length cH,[.row c0 (bytesF 32 (L E))],lsC S cl,[],[],msR x aS cS,msR z a' c',[.row cV f1],[.row cVa f2],[.row cB f3],b15,b16,b17,b18,[.row cQ f5],mpL g1 (svB z2.p.s),[.row cH f6],msC 20 z2]⟩) (fun P key=>?_) ?_
  ·obtain ⟨hzk,hzr,hzp,hzm⟩:=hz2
   have hzk:z2.k=z.k:=hzk
   have hzr:z2.r=z.r:=hzr
   have hzp:sameP z2.p z.p:=hzp
   have hzm:z2.m=hmarkL E z.k S (openMs z):=hzm
   have hzl:z2.m.length=32:=by rw [hzm]; exact hmkl
   rw [← hzm] at hf5
   have e9:decide ((0:Int)≠0)=false:=by decide
   have k2:decide (z2.k≠z.k)=false:=decide_eq_false fun h=>h hzk
   refine ⟨none,[],[(0,true),(1,true),(2,true),(3,true),(4,true),(5,true),(6,true),(7,true),(8,true),(9,true),(10,true),(11,true),(12,true),(13,true),(14,true),(15,true),(16,true),(17,true),(18,true),(19,true),(20,true),(21,false),(22,true),(23,true),(24,true),(25,true),(26,true),(27,true),(28,true),(29,true),(30,true),(31,true)],[],by kernel_rfl,?_⟩
   (repeat show _∧_;first|refine yr ?_|refine yt ?_|refine yf ?_|refine yt ?_ (by first|decide|(rw[e9];decide)|(rw[k2];decide))|refine yf ?_ (by first|decide|(rw[e9];decide)|(rw[k2];decide))|refine yo ?_)
   refine ⟨⟨rfl,rfl,fun j hj=>rfl,fun j hj=>rfl⟩,fun b1 hb1=>?_⟩
   have k3:(!b1)=false:=by rw [hb1.2 (fun j hj=>by rw [hzr])]; rfl
   (repeat show _∧_;first|refine yr ?_|refine yt ?_|refine yf ?_|refine yt ?_ (by first|decide|(rw[e9];decide)|(rw[k2];decide)|(rw[k3];decide))|refine yf ?_ (by first|decide|(rw[e9];decide)|(rw[k2];decide)|(rw[k3];decide))|refine yo ?_)
   refine call_same (fn_psameR z2.p z.p hz2o hb' fo.p.small) [20,0] rfl (by (repeat first|exact trivial|refine ent1 ?_)) (by refine eqC_btsM ?_; (repeat first|exact trivial|refine ent1 ?_)) (fun _ _=>trivial) ?_
   rintro y hs' ⟨rfl,rfl⟩
   have k5:(!decide (sameP z2.p z.p))=false:=by rw [decide_eq_true hzp]; rfl
   (repeat show _∧_;first|refine yr ?_|refine yt ?_|refine yf ?_|refine yt ?_ (by first|decide|(rw[e9];decide)|(rw[k2];decide)|(rw[k3];decide)|(rw[k5];decide))|refine yf ?_ (by first|decide|(rw[e9];decide)|(rw[k2];decide)|(rw[k3];decide)|(rw[k5];decide))|refine yo ?_)
   refine ⟨U8 z2.m,str_of hzl (fun q hq=>rfl),?_⟩
   (repeat show _∧_;first|refine yr ?_|refine yt ?_|refine yf ?_|refine yt ?_ (by first|decide|(rw[e9];decide)|(rw[k2];decide)|(rw[k3];decide)|(rw[k5];decide))|refine yf ?_ (by first|decide|(rw[e9];decide)|(rw[k2];decide)|(rw[k3];decide)|(rw[k5];decide))|refine yo ?_)
   refine ⟨by show 0+32≤cQ; omega,U8 z2.m,str_of hzl (fun i hi=>hf5 i hi),?_⟩
   have k6:(!decide (U8 z2.m=U8 z2.m))=false:=by simp
   (repeat show _∧_;first|refine yr ?_|refine yt ?_|refine yf ?_|refine yt ?_ (by first|decide|(rw[e9];decide)|(rw[k2];decide)|(rw[k3];decide)|(rw[k5];decide)|(rw[k6];decide))|refine yf ?_ (by first|decide|(rw[e9];decide)|(rw[k2];decide)|(rw[k3];decide)|(rw[k5];decide)|(rw[k6];decide))|refine yo ?_)
   exact key _ _ _ _ _ _ _ _ _ _ _ _ _ _ _ _ _ _ _ _ _ _ _ _ _ _ _ _ _ _ _ _
  intro v110 v111 v112 v113 v114 v115 v116 v117 v118 v119 v120 v121 v122 v123 v124 v125 v126 v127 v128 v129 v130 v131 v132 v133 v134 v135 v136 v137 v138 v139 v140 v141
  show vc _ _ _ _
  have hSV:(S++V).length=S.length+V.length:=by rw [List.length_append]
  (repeat show _∧_;first|refine yr ?_|refine yt ?_|refine yf ?_|refine yo ?_)
  refine ⟨by show 0+V.length≤cV; omega,?_⟩
  refine ⟨⟨h5,by show 0+cl≤cl; omega,by show (S.length+V.length)*1≤140737488355328; omega⟩,fun c9 hc9=>?_⟩
  (repeat show _∧_;first|refine yr ?_|refine yt ?_|refine yf ?_|refine yo ?_)
  refine ⟨some (k+1,(S++V),c9,cVa,cH),[0,1,2,3,4,5,6,23,13,21],⟨⟨rfl,rfl,rfl⟩,?_⟩,⟨by omega,by omega,by omega,by omega,by omega,by omega,by omega⟩,by show n-(k+1)<n-k; omega⟩
  (repeat first|exact trivial|refine ent1 ?_)
  refine eqC_bts ?_
  (repeat first|exact trivial|refine ent1 ?_)
  refine ⟨fun j hj=>eqC_bytes (fun i hi=>app_row (l:=S) (m:=V) rfl rfl (fun i hi=>bytesF_lt hi) (fun q hq=>hf1 q hq) i (by rw [← hSV]; exact hi)) j,?_⟩
  (repeat first|exact trivial|refine ent1 ?_)
  refine ⟨fun j hj=>eqC_bytes hf2 j,?_⟩
  (repeat first|exact trivial|refine ent1 ?_)
  refine ⟨fun j hj=>eqC_bytes hf6 j,?_⟩
  (repeat first|exact trivial|refine ent1 ?_)
end Sx
end
section
namespace Sx
open Go.ChangeShapes

theorem wf_w64 {a:Int} (h:(Lit.int .u64 a).wf=true):a=((BitVec.ofInt 64 a).toNat:Int):=by
 have:=bounds_u64 h
 rw [BitVec.toNat_ofInt]
 omega
end Sx
end
section
namespace Sx
open Go.RowKit Go.ChangeShapes Go.WideShapes Sha Vi

theorem isL_app {r:Rho} {l1 l2:List SC} {v1 v2:List Value} (h1:IsL r l1 v1) (h2:IsL r l2 v2):IsL r (l1++l2) (v1++v2):=by
 refine ⟨by rw [List.length_append,List.length_append,h1.1,h2.1],fun j x e=>?_⟩
 rw [List.getElem?_append] at e ⊢
 rw [← h1.1]
 split at e
 ·rename_i h; rw [if_pos h]; exact h1.2 j x e
 ·rename_i h; rw [if_neg h]; exact h2.2 _ x e
section
variable {H : Type} {enc : TypeId × Value → H} {P : Program} {w : World} {base : Nat} {held : Bool}
theorem trod_arr8 {t e:TypeId} {n:Nat} {fuel:Nat} {cs:List Value} {y:DataW H × List MemPlace} (ht:P.underlying t=some (.array n e)) (he:P.underlying e=some (.int .u8)) (hc:P.cellsOf e=1) (hn:P.cellsOf t=n)
  (h:DataW.trod enc P w base (fun _=>true) held fuel t cs=some y):∃ l:Bs,l.length=n∧∀ r:Rho,IsL r ((List.range n).map fun i=>.w8 (L l i)) cs:=by
 obtain ⟨xs,m,_,_,hl,hx,hel⟩:=DataW.trod_array ht h
 have cell:∀ i,i<n→∃ x:Int,cs[i]?=some (.int .u8 x)∧(Lit.int .u8 x).wf=true:=by
  intro i hi
  have h1:=hel i hi
  rw [hc,Nat.mul_one,List.getElem?_eq_getElem (by omega)] at h1
  obtain ⟨x,e1,_,wx⟩:=DataW.trod_int he h1
  refine ⟨x,?_,wx⟩
  have hi2:i<cs.length:=by omega
  have h2:(cs.drop i).take 1=[cs[i]]:=by
   rw [List.drop_eq_getElem_cons hi2]
   rfl
  rw [h2] at e1
  simp at e1
  rw [List.getElem?_eq_getElem hi2,e1]
 refine ⟨tab n fun i=>match cs[i]? with|some (.int .u8 x)=>BitVec.ofInt 8 x|_=>0#8,tab_len _ _,fun r=>⟨by simp; omega,fun j x e=>?_⟩⟩
 have hj:j<n:=by
  have:=(List.getElem?_eq_some_iff.1 e).1
  simpa using this
 obtain ⟨v,e1,wx⟩:=cell j hj
 refine ⟨_,e1,?_⟩
 simp [hj] at e
 subst e
 rw [L_tab hj,e1]
 exact congrArg _ (wf_w8 wx)
theorem one_u64 {t:TypeId} {fuel:Nat} {cs:List Value} {y:DataW H × List MemPlace} (ht:P.underlying t=some (.int .u64)) (h:DataW.trod enc P w base (fun _=>true) held fuel t cs=some y):∃ b:BitVec 64,∀ r:Rho,IsL r [.w64 b] cs:=by
 obtain ⟨x,rfl,_,wx⟩:=DataW.trod_int ht h
 exact ⟨BitVec.ofInt 64 x,fun r=>isL_cons (congrArg _ (wf_w64 wx)) (isL_nil r)⟩
theorem one_u8 {t:TypeId} {fuel:Nat} {cs:List Value} {y:DataW H × List MemPlace} (ht:P.underlying t=some (.int .u8)) (h:DataW.trod enc P w base (fun _=>true) held fuel t cs=some y):∃ b:BitVec 8,∀ r:Rho,IsL r [.w8 b] cs:=by
 obtain ⟨x,rfl,_,wx⟩:=DataW.trod_int ht h
 exact ⟨BitVec.ofInt 8 x,fun r=>isL_cons (congrArg _ (wf_w8 wx)) (isL_nil r)⟩
end
theorem split4 {α:Type} {l:List α} (h:l.length=75):l=l.take 1++(l.drop 1).take 32++(l.drop 33).take 10++(l.drop 43).take 32:=by
 have e1:∀ (k n:Nat),l.drop k=(l.drop k).take n++l.drop (k+n):=fun k n=>by
  conv=>lhs; rw [← List.take_append_drop n (l.drop k)]
  rw [List.drop_drop]
 have e2:=e1 0 1
 have e3:=e1 1 32
 have e4:=e1 33 10
 have e5:=e1 43 32
 rw [List.drop_zero] at e2
 have e6:l.drop (43+32)=[]:=List.drop_eq_nil_of_le (by omega)
 rw [e6,List.append_nil] at e5
 conv=>lhs; rw [e2,show l.drop (0+1)=l.drop 1 from rfl,e3,show l.drop (1+32)=l.drop 33 from rfl,e4,show l.drop (33+10)=l.drop 43 from rfl,e5]
 simp only [List.append_assoc]
section
variable {H : Type} {enc : TypeId × Value → H} {w : World} {base : Nat} {held : Bool}
end
end Sx
end
section
namespace Sx
open Go.RowKit Go.ChangeShapes Go.WideShapes Sha Vi

theorem FnR.lawW {P:Program} {T:List (Nat × TD)} {f:FuncId} {n:Nat} {h0:List (List Seg)} {args:List SA} {w:World} {vs:List Value} {r0:Rho} (h:FnR P T f n h0 args (fun _=>True) (fun x _=>x=.a (.c (.bool true)))) (hn:n=h0.length)
  (hat:AllAt r0 w h0 r0) (ha:IsAs r0 args vs) (hp:∀ (i:Nat) (W:World) (ms:List Nat),h0[i]?=some [.past W ms]→W=w):Calls P f vs.toArray w fun e w'=>e=.returned (.bool true)∧Below w.heap.size w w':=by
 subst hn
 refine (h w r0 vs (heapOk_ro hat hp) ha trivial).mono ?_
 rintro e w' ⟨v,x,hs,r',rfl,hx,hok,rfl⟩
 obtain rfl:v=.bool true:=hx
 refine ⟨rfl,?_⟩
 have e:Ext ((r0.drop h0.length).map (·.1)) w w':=hok.ext
 rw [List.drop_eq_nil_of_le (by rw [hat.len]; exact Nat.le_refl _)] at e
 exact e.below0
theorem cell_block {w:World} {a:Addr} {v:Value} (h:w.cell? a=some v):a.block<w.heap.size:=by
 unfold World.cell? at h
 rcases Nat.lt_or_ge a.block w.heap.size with hb|hb
 ·exact hb
 ·rw [Array.getElem?_eq_none hb] at h; cases h
theorem row_bs {w:World} {a:Option Addr} {n c:Nat} {zs:List Int} (h:IsRow .u8 w a n c zs) (hs:∀ x,a=some x→x.spot=none):∃ l:Bs,BsAt w [] a n c l:=by
 obtain ⟨z,l,B,f,hI⟩:=open_b8 h hs
 rcases h with ⟨rfl,rfl,rfl,rfl⟩|⟨x,rfl,hl,hm,hz,hc,hw⟩
 ·exact ⟨[],SlAt.nul⟩
 ·obtain ⟨B,f,spot⟩:=x
  obtain rfl:spot=none:=hs _ rfl
  have hcap:=hI.cap
  refine ⟨(zs.take n).map (BitVec.ofInt 8),by simp; omega,hl,by unfold maxLen at hcap; omega,(fun e=>by cases e),fun x e h0=>?_⟩
  injection e with e
  subst e
  refine ⟨rfl,?_,List.not_mem_nil,fun j y e=>?_⟩
  ·have:=cell_block (hc 0 (by omega))
   simpa [Addr.add] using this
  ·have hj:j<n:=by
    have:=(List.getElem?_eq_some_iff.1 e).1
    simp at this; omega
   have hjz:j<zs.length:=by omega
   have ha:(⟨B,f,none⟩:Addr).add j=⟨B,f+j,none⟩:=by unfold Addr.add; simp
   have hc1:=hc j (by omega)
   rw [ha] at hc1
   refine ⟨_,hc1,?_⟩
   rw [List.getElem?_map,List.getElem?_map,List.getElem?_take,if_pos hj,List.getElem?_eq_getElem hjz] at e
   simp only [Option.map_some,Option.some.injEq] at e
   subst e
   show Value.int .u8 _=Value.int .u8 _
   congr 1
   have h3:zs.getD j 0=zs[j]:=by rw [List.getD_eq_getElem?_getD,List.getElem?_eq_getElem hjz]; rfl
   rw [h3]
   exact wf_w8 (hw _ (List.getElem_mem _))
section
variable {H : Type} {enc : TypeId × Value → H} {P : Program} {w : World} {base : Nat} {held : Bool}
theorem raw_b8 {t e:TypeId} {fuel:Nat} {cs:List Value} {y:DataW H × List MemPlace} (ht:P.underlying t=some (.slice e)) (he:P.underlying e=some (.int .u8)) (hc:P.cellsOf e=1)
  (h:DataW.trod enc P w base (fun _=>true) held fuel t cs=some y):∃ (a:Option Addr) (n c:Nat) (l:Bs),cs=[.slice a n c]∧BsAt w [] a n c l:=by
 rcases open_ints ht he hc h with ⟨rfl,_⟩|⟨x,n,c,zs,rfl,_,hl,hm,hz,_,hcell,hwz⟩
 ·exact ⟨none,0,0,[],rfl,SlAt.nul⟩
 ·have hz:zs.length=c:=by simpa using hz
  rcases Nat.eq_zero_or_pos c with hc0|hc0
  ·subst hc0
   obtain rfl:n=0:=by omega
   exact ⟨_,0,0,[],rfl,by simp,Nat.le_refl _,by decide,fun _=>rfl,fun x e h0=>absurd rfl h0⟩
  ·obtain ⟨l,hl⟩:=row_bs (w:=w) (n:=n) (c:=c) (zs:=zs) (.inr ⟨x,rfl,hl,hm,hz,fun i hi=>hcell i hi,hwz⟩) (fun y e=>by
    cases e
    have:=World.cell?_spot (hcell 0 (by omega))
    simpa [Addr.add] using this)
   exact ⟨_,n,c,l,rfl,hl⟩
end
section
variable {H : Type} {enc : TypeId × Value → H} {w : World} {base : Nat} {held : Bool}
set_option maxRecDepth 100000 in
theorem open_paramsR {fuel:Nat} {cs:List Value} {y:DataW H × List MemPlace} (hlen:cs.length=10) (h:DataW.trod enc Try.prog w base (fun _=>true) held fuel 33 cs=some y) :
  ∃ (p:Pm) (a:Option Addr) (n c:Nat),BsAt w [] a n c p.s.l∧p.s=slR a c p.s.l∧∀ r:Rho,IsL r (flat (pmR p a c)) cs:=by
 obtain ⟨xs,n,_,_,_,hxl,hg⟩:=DataW.trod_struct Try.underlying33 h
 match cs,hlen with
 | [c0,c1,c2,c3,c4,c5,c6,c7,c8,c9],_ =>
  match xs,hxl with
  | [y0,y1,y2,y3,y4,y5,y6,y7,y8,y9],_ =>
   obtain ⟨b0,h0⟩:=one_u64 (P:=Try.prog) (cs:=[c0]) (y:=y0) Try.underlying31 (hg 0 _ rfl)
   obtain ⟨b1,h1⟩:=one_u64 (P:=Try.prog) (cs:=[c1]) (y:=y1) Try.underlying31 (hg 1 _ rfl)
   obtain ⟨b2,h2⟩:=one_u64 (P:=Try.prog) (cs:=[c2]) (y:=y2) Try.underlying31 (hg 2 _ rfl)
   obtain ⟨b3,h3⟩:=one_u64 (P:=Try.prog) (cs:=[c3]) (y:=y3) Try.underlying31 (hg 3 _ rfl)
   obtain ⟨b4,h4⟩:=one_u64 (P:=Try.prog) (cs:=[c4]) (y:=y4) Try.underlying31 (hg 4 _ rfl)
   obtain ⟨b5,h5⟩:=one_u64 (P:=Try.prog) (cs:=[c5]) (y:=y5) Try.underlying31 (hg 5 _ rfl)
   obtain ⟨b6,h6⟩:=one_u64 (P:=Try.prog) (cs:=[c6]) (y:=y6) Try.underlying31 (hg 6 _ rfl)
   obtain ⟨b7,h7⟩:=one_u64 (P:=Try.prog) (cs:=[c7]) (y:=y7) Try.underlying31 (hg 7 _ rfl)
   obtain ⟨b8,h8⟩:=one_u64 (P:=Try.prog) (cs:=[c8]) (y:=y8) Try.underlying31 (hg 8 _ rfl)
   obtain ⟨a,m,c,l,e9,hl⟩:=raw_b8 (P:=Try.prog) (cs:=[c9]) (y:=y9) Try.underlying22 Try.underlying5 (by kernel_rfl) (hg 9 _ rfl)
   have hm:=hl.n1
   subst hm
   have h9:∀ r:Rho,IsL r [SC.slc a l.length c] [c9]:=fun r=>by
    rw [e9]
    exact isL_cons rfl (isL_nil r)
   refine ⟨⟨b0,b1,b2,b3,b4,b5,b6,b7,b8,slR a c l⟩,a,l.length,c,hl,rfl,fun r=>?_⟩
   exact isL_app (h0 r) (isL_app (h1 r) (isL_app (h2 r) (isL_app (h3 r) (isL_app (h4 r) (isL_app (h5 r) (isL_app (h6 r) (isL_app (h7 r) (isL_app (h8 r) (h9 r)))))))))
set_option maxRecDepth 100000 in
theorem open_cellsR {fuel:Nat} {cs:List Value} {y:DataW H × List MemPlace} (hl:cs.length=75) (hf:DataW.trod enc Try.prog w base (fun _=>true) held fuel 35 cs=some y) :
  ∃ (x:Ms) (a:Option Addr) (n c:Nat),x.r.length=32∧x.m.length=32∧BsAt w [] a n c x.p.s.l∧x.p.s=slR a c x.p.s.l∧∀ r:Rho,IsL r (flat (msR x a c)) cs:=by
 obtain ⟨xs,n,_,_,_,hxl,hg⟩:=DataW.trod_struct Try.underlying35 hf
 match xs,hxl with
 | [y0,y1,y2,y3],_ =>
  obtain ⟨k,h0⟩:=one_u8 (P:=Try.prog) (cs:=cs.take 1) (y:=y0) Try.underlying5 (hg 0 _ rfl)
  obtain ⟨r,hr,h1⟩:=trod_arr8 (P:=Try.prog) (cs:=(cs.drop 1).take 32) (y:=y1) Try.underlying30 Try.underlying5 (by kernel_rfl) (by kernel_rfl) (hg 1 _ rfl)
  obtain ⟨p,a,n,c,hb,hs,h2⟩:=open_paramsR (cs:=(cs.drop 33).take 10) (y:=y2) (by simp; omega) (hg 2 _ rfl)
  obtain ⟨m,hm,h3⟩:=trod_arr8 (P:=Try.prog) (cs:=(cs.drop 43).take 32) (y:=y3) Try.underlying30 Try.underlying5 (by kernel_rfl) (by kernel_rfl) (hg 3 _ rfl)
  refine ⟨⟨k,r,p,m⟩,a,n,c,hr,hm,hb,hs,fun ρ=>?_⟩
  rw [split4 hl]
  exact isL_app (isL_app (isL_app (h0 ρ) (h1 ρ)) (h2 ρ)) (h3 ρ)
set_option maxRecDepth 100000 in
/-- A slice of messages as an argument, opened. -/
theorem open_msl {rc:Reach} {b0:Nat} {v:Value} {d:DataW H} {p:List MemPlace} (hval:Value.okWide Try.prog w rc b0 23 v) (h:DataW.Trod enc Try.prog w base (fun _=>true) held 23 v d p) :
  ∃ (a:Option Addr) (n c:Nat),v=.slice a n c∧MslAt w [] a n c:=by
 obtain ⟨a0,n0,c0,rfl⟩:=okWide_slice Try.underlying23 hval
 have hspot:=okWide_spot Try.underlying23 hval
 obtain ⟨fuel,hf⟩:=h
 rcases DataW.trod_slice Try.underlying23 hf with ⟨hcs,_⟩|⟨a,len,cap,elems,rest,m,_,hcs,_,hb,hl,hm,hlen,hel,_,_⟩
 ·simp [Value.cells] at hcs
  obtain ⟨rfl,rfl,rfl⟩:=hcs
  exact ⟨none,0,0,rfl,Nat.le_refl _,fun _=>rfl,fun A e=>by cases e⟩
 simp [Value.cells] at hcs
 obtain ⟨rfl,rfl,rfl⟩:=hcs
 have hsz:Try.prog.cellsOf 35=75:=by kernel_rfl
 rw [hsz] at hel
 obtain ⟨B,f,sp⟩:=a
 obtain rfl:sp=none:=hspot _ rfl
 refine ⟨some ⟨B,f,none⟩,n0,c0,rfl,hl,(fun e=>by cases e),fun A hA k hk=>?_⟩
 cases hA
 have h1:=hel k hk
 rw [List.getElem?_eq_getElem (by omega),Option.bind_eq_some_iff] at h1
 obtain ⟨cs,hcs,ht⟩:=h1
 obtain ⟨hb',hlen',hget⟩:=World.cells?_some hcs
 obtain ⟨x,aS,nS,cS,hr,hm',hbs,hs,hi⟩:=open_cellsR hlen' ht
 refine ⟨x,aS,nS,cS,⟨?_,?_,List.not_mem_nil,fun j y he=>?_⟩,hr,hm',hbs,hs⟩
 ·simp only [Addr.add]; split <;> rfl
 ·have h0:=hget 0 (by omega)
  rw [List.getElem?_eq_getElem (by omega)] at h0
  exact cell_block h0
 ·obtain ⟨v,e1,e2⟩:=(hi []).2 j y he
  have hj:j<75:=by
   have:=(List.getElem?_eq_some_iff.1 he).1
   rw [flat_msR] at this
   exact this
  refine ⟨v,?_,e2⟩
  have h0:=hget j hj
  rw [e1] at h0
  rw [← h0]
  congr 1
  simp only [Addr.add]
  split <;> split <;> simp <;> omega
end
end Sx
end
end Go.Proofs.Ytgmbfaefadefjaa
