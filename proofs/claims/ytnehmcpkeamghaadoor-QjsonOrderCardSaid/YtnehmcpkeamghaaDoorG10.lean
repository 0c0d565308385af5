/-
  Texts of this claim, part 10: EpI, JtL. No condition of its own.
-/
import Derived.Lib.LaidU8
import Derived.MakeChecks
import Derived.Test.YtnehmcpkeamghaaDoorG9
namespace Go.Proofs.YtnehmcpkeamghaaDoor
set_option linter.unusedVariables false
section
namespace Sx
open Go.RowKit Go.ChangeShapes Go.WideShapes Sha Vi Ev

structure EvIn (w:World) (e:Ev) (x:EvC) (cs:Array Value):Prop where
 at_:EvAt w [] x e
 is:∀ r:Rho,SA.Is r (.agg (evS e x)) (.agg cs)
variable {H : Type} {enc : TypeId × Value → H} {w : World} {base : Nat} {held : Bool}
set_option maxRecDepth 100000 in
theorem open_evA {rc:Reach} {b0:Nat} {v:Value} {d:DataW H} {p:List MemPlace} (hval:Value.okWide Tryd.prog w rc b0 27 v) (h:DataW.Trod enc Tryd.prog w base (fun _=>true) held 27 v d p) :
  ∃ (e:Ev) (x:EvC) (cs:Array Value),v=.agg cs∧EvIn w e x cs:=by
 obtain ⟨cs,rfl,hsz⟩:=okWide_struct Tryd.underlying27 hval
 have hsz:cs.size=4:=hsz.trans (by kernel_rfl)
 obtain ⟨fuel,hf⟩:=h
 obtain ⟨e,x,hx,hi⟩:=open_ev (cs:=cs.toList) (by simpa using hsz) hf
 exact ⟨e,x,cs,rfl,hx,fun ρ=>⟨cs.toList,by simp,hi ρ⟩⟩
end Sx
end
section
namespace Sx
open Go.RowKit Sha Vi Js

theorem laysU8:Go.Proofs.Lays.n260 Tryd.prog Tryd.lays197_ren:={ Tryd.lays197 with }
theorem extraU8:Go.Proofs.U8Extra Tryd.prog Tryd.lays197_ren:=⟨by kernel_rfl,by kernel_rfl,by kernel_rfl,by kernel_rfl,by kernel_rfl,by kernel_rfl,by kernel_rfl⟩
theorem first_eq:Rows.laid_unicode_utf8_first=Lib.firstData:=by kernel_rfl
theorem accept_eq:(Rows.laid_unicode_utf8_acceptRanges:DataW Unit)=Lib.acceptData:=by kernel_rfl
theorem pow_eq:(Rows.laid_internal_strconv_uint64pow10:DataW Unit)=Lib.tabData .u64 Lib.pow10Tab:=by kernel_rfl
theorem tabIs_reads {P:Program} {W:World} {name:String} {k:IntKind} {zs:List Int} {g:Nat} {t e:TypeId} {n:Nat}
  (hg:P.globalNamed name=some g) (hty:(P.globals[g]?).map (·.type)=some t) (ht:P.underlying t=some (.array n e)) (he:P.underlying e=some (.int k)) (hce:P.cellsOf e=1) (hct:P.cellsOf t=n)
  (h:Lib.VarReads P W name (Lib.tabData k zs)):Lib.TabIs P W name k zs:=by
 obtain ⟨g',t',cs,fuel,p,hg',ht',hvar,hd⟩:=h
 obtain rfl:=Option.some.inj (hg.symm.trans hg')
 obtain rfl:=Option.some.inj (hty.symm.trans ht')
 unfold Lib.TabIs
 rw [hvar,← Lib.cells_of_tab ht he hce hct hd]
theorem size_reads {P:Program} {W:World} {name:String} {d:DataW Unit} {g:Nat} (hg:P.globalNamed name=some g) (h:Lib.VarReads P W name d):g<W.heap.size:=by
 obtain ⟨g',t',cs,fuel,p,hg',ht',hvar,hd⟩:=h
 obtain rfl:=Option.some.inj (hg.symm.trans hg')
 rcases Nat.lt_or_ge g W.heap.size with h|h
 ·exact h
 ·unfold World.var? at hvar
  rw [hg] at hvar
  simp [Array.getElem?_eq_none h] at hvar
theorem tabs_of_laid {W:World} (h:laidMetH Tryd.prog Rows.jsonErrorsRow.laid W):Tabs W []:=by
 rw [MakeChecks.laidMetH_plain _ _ _ (by kernel_rfl)] at h
 have r5:=Lib.laidMet.reads h (.tail _ (.head _))
 have r3:=Lib.laidMet.reads h (.tail _ (.tail _ (.head _)))
 have r1:=Lib.laidMet.reads h (.tail _ (.tail _ (.tail _ (.head _))))
 have r0:=Lib.laidMet.reads h (.tail _ (.tail _ (.tail _ (.tail _ (.head _)))))
 rw [first_eq] at r0
 rw [accept_eq] at r1
 rw [pow_eq] at r3
 refine ⟨Go.Proofs.utf8Tabs_of_reads laysU8 extraU8 r0 r1,tabIs_reads (P:=Tryd.prog) (name:=p10n) p10_glob (by kernel_rfl) (t:=156) (e:=23) (n:=20) Tryd.underlying156 Tryd.underlying23 (by kernel_rfl) (by kernel_rfl) (by exact r3),?_,fun B _=>List.not_mem_nil⟩
 exact size_reads (g:=5) (by kernel_rfl) r5
end Sx
end
end Go.Proofs.YtnehmcpkeamghaaDoor
