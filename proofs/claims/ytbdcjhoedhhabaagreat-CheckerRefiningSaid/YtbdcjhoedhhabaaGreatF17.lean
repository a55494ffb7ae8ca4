/- Contracts of the functions that the statements reach, part 17. -/
import Derived.Test.YtbdcjhoedhhabaaGreatF13
import Derived.Test.YtbdcjhoedhhabaaGreatF14
import Derived.Test.YtbdcjhoedhhabaaGreatF15
import Derived.Test.YtbdcjhoedhhabaaGreatF16
set_option linter.unusedSimpArgs false
set_option linter.unusedVariables false

/- The known answers are as they should be. Printed by genkn.py. -/
namespace Go.Proofs.YtbdcjhoedhhabaaGreat
open Go.RowKit

theorem tabs_ok:TabsOk tabs Tryz.prog where
 ty t i h:=by
  have e:Tr.get (Tr.build 700 Tryz.prog.types.toList) t=Tryz.prog.types.toList[t]?:=Tr.get_build 700 _ t (Nat.le_of_ble_eq_true (by kernel_rfl))
  have h2:Tryz.prog.types.toList[t]? = some i:=e.symm.trans h
  exact info_of _ h2
 fn f x h:=by
  have e:Tr.get (Tr.build 700 Tryz.prog.funcs.toList) f=Tryz.prog.funcs.toList[f]?:=Tr.get_build 700 _ f (Nat.le_of_ble_eq_true (by kernel_rfl))
  have h2:Tryz.prog.funcs.toList[f]? = some x:=e.symm.trans h
  exact func_of _ h2
 name f x h:=by
  have e:Tr.get (Tr.build 700 Tryz.prog.funcs.toList) f=Tryz.prog.funcs.toList[f]?:=Tr.get_build 700 _ f (Nat.le_of_ble_eq_true (by kernel_rfl))
  have h2:Tryz.prog.funcs.toList[f]? = some x:=e.symm.trans h
  have hall : (Tryz.prog.funcs.toList.all fun x => !(x.name == "runtime.NumGoroutine")) = true := by kernel_rfl
  have:=List.all_eq_true.1 hall x (List.mem_of_getElem? h2)
  simpa using this
 eqs t h:=by
  simp only [tabs,List.mem_cons,List.not_mem_nil,or_false] at h
  rcases h with rfl | rfl | rfl <;> exact ⟨by kernel_rfl,by kernel_rfl⟩

set_option maxRecDepth 1000000 in
theorem kn_fine:([kn1,kn2,kn3,kn4,kn5,kn6,kn7,kn8].all fun e=>e.fine)=true:=by kernel_rfl

theorem kn_all:∀ e∈[kn1,kn2,kn3,kn4,kn5,kn6,kn7,kn8],e.runs tabs 60=true∧e.fine=true:=by
 intro e he
 refine ⟨?_,List.all_eq_true.1 kn_fine e he⟩
 simp only [List.mem_cons,List.not_mem_nil,or_false] at he
 rcases he with rfl | rfl | rfl | rfl | rfl | rfl | rfl | rfl
 ·exact kn1_run
 ·exact kn2_run
 ·exact kn3_run
 ·exact kn4_run
 ·exact kn5_run
 ·exact kn6_run
 ·exact kn7_run
 ·exact kn8_run

noncomputable def knownB:Bool:=
 match mainA tabs (memoA (callA tabs 60) [kn1,kn2,kn3,kn4,kn5,kn6,kn7,kn8]) 14 with
 | some (.bool true,_)=>true
 | _=>false

set_option maxRecDepth 1000000 in
theorem known_run:knownB=true:=by kernel_rfl

/-- The known answers hold. -/
theorem known48_any (w:World):Calls Tryz.prog 14 #[] w fun e w'=>e = .returned (.bool true)∧Below w.heap.size w w':=by
 have h:=known_run
 unfold knownB at h
 split at h
 ·rename_i m hm
  exact mainA_sound tabs_ok (by kernel_rfl) (memoA_sound tabs_ok (by kernel_rfl) (callA_sound tabs_ok (by kernel_rfl) 60) kn_all) hm trivial w
 ·cases h

end Go.Proofs.YtbdcjhoedhhabaaGreat

