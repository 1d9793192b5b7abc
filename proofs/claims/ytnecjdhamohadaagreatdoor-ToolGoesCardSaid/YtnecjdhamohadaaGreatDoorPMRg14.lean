/- A tool's run goes as the document's. -/
import Derived.Test.YtnecjdhamohadaaGreatDoorPMRg13
import Derived.Test.YtnecjdhamohadaaGreatDoorPMRgR
import Derived.Test.YtnecjdhamohadaaGreatDoorPMTg9
set_option linter.unusedSimpArgs false
set_option linter.unusedVariables false
namespace Go.Proofs.YtnecjdhamohadaaGreatDoor
open Go.RowKit Go.Maps Go.Shelf
set_option maxRecDepth 100000
set_option maxHeartbeats 8000000 in
theorem goes_wide (w:World) (env:List (TT × TT)) (U:List KE) (text:TT) (hl:Lib3 w) (hwe:∀ p∈env,p.1.length+p.2.length≤4611686018427387904)
  (hwk:∀ k∈U,k.path.length+k.data.length≤4611686018427387904) (EA KA:Option Addr) (ec kc:Nat) (hre:Rd w 2 EA env.length (setV env)) (hrk:Rd w 3 KA U.length (kV U)) (h1:wideL env U text=true) :
  Calls Tryz.prog 3 #[.string (strB text),.slice EA env.length ec,.slice KA U.length kc] w fun e w'=>e = .returned (.bool true)∧Below w.heap.size w w':=by
 obtain⟨X,hX⟩:∃ X,X=strB text:=⟨_,rfl⟩
 obtain⟨un,hun⟩:∃ n,n=U.length:=⟨_,rfl⟩
 obtain⟨en,hen⟩:∃ n,n=env.length:=⟨_,rfl⟩
 have CW1:=hid2 (show ∀ w2,Below w.heap.size w w2→Calls Tryz.prog 10 #[.string X,.slice EA en ec,.slice KA un kc] w2 fun e w'=>e = .returned (.bool true)∧Below w2.heap.size w2 w' from fun w2 hb=>by
  have:=wide_any w2 EA KA ec kc env U text hwe hwk (hre.below_all hb) (hrk.below_all hb)
  rw [h1] at this
  rw [hX,hun,hen]
  exact this)
 have CAL:=hid2 (alive_any w hl)
 rw [← hX,← hun,← hen]
 clear hl hwe hwk hre hrk hX hun hen h1
 go_enter Tryz.func3,Tryz.ntmps3
 go_wp2_with (first
  | (go_at_call 9; refine CAL.out.mono ?_;rintro e w1 ⟨rfl,hb⟩;have HB:=hid2 hb;clear hb CAL)
  | (go_at_call 10; refine (CW1.out _ HB.out).mono ?_;rintro e w1 ⟨rfl,hb⟩;have HB:=hid2 (HB.out.trans (hb.mono HB.out.size));clear hb CW1)
  | (go_at_call 11; refine (CST.out _ HB.out).mono ?_;rintro e w1 ⟨rfl,hb⟩;have HB:=hid2 (HB.out.trans (hb.mono HB.out.size));clear hb CST)
  | (go_at_call 12; refine (CCK.out _).mono ?_;rintro e w1 ⟨rfl,hb⟩;have HB:=hid2 (HB.out.trans (hb.mono HB.out.size));clear hb CCK))
 refine bodyPost_ret (results_tmp rfl _ _ _) rfl ?_
 exact⟨rfl,HB.out⟩
set_option maxHeartbeats 8000000 in
theorem goes_bad (w:World) (env:List (TT × TT)) (U:List KE) (text:TT) (hl:Lib3 w) (hwe:∀ p∈env,p.1.length+p.2.length≤4611686018427387904)
  (hwk:∀ k∈U,k.path.length+k.data.length≤4611686018427387904) (EA KA:Option Addr) (ec kc:Nat) (hre:Rd w 2 EA env.length (setV env)) (hrk:Rd w 3 KA U.length (kV U)) (h1:wideL env U text=false) (hbad:(checkT mayB text).1≠0) :
  Calls Tryz.prog 3 #[.string (strB text),.slice EA env.length ec,.slice KA U.length kc] w fun e w'=>e = .returned (.bool true)∧Below w.heap.size w w':=by
 obtain⟨X,hX⟩:∃ X,X=strB text:=⟨_,rfl⟩
 obtain⟨un,hun⟩:∃ n,n=U.length:=⟨_,rfl⟩
 obtain⟨en,hen⟩:∃ n,n=env.length:=⟨_,rfl⟩
 have CW1:=hid2 (show ∀ w2,Below w.heap.size w w2→Calls Tryz.prog 10 #[.string X,.slice EA en ec,.slice KA un kc] w2 fun e w'=>e = .returned (.bool false)∧Below w2.heap.size w2 w' from fun w2 hb=>by
  have:=wide_any w2 EA KA ec kc env U text hwe hwk (hre.below_all hb) (hrk.below_all hb)
  rw [h1] at this
  rw [hX,hun,hen]
  exact this)
 have CAL:=hid2 (alive_any w hl)
 have htx:text.length≤1500:=(not_wide h1).1
 have CST:=hid2 (show ∀ w2,Below w.heap.size w w2→Calls Tryz.prog 11 #[.string X,.slice EA en ec] w2 fun e w'=>e = .returned (.tuple #[.pointer none,.int .i64 (checkT mayB text).1])∧Below w2.heap.size w2 w' from fun w2 hb=>by
  rw [hX]
  refine (start_bad w2 ⟨mayB,env⟩ text (by omega) (hl.on hb).lib hbad EA en ec).mono fun e w' k=>?_
  rcases k with ⟨_,h2,h3⟩ | ⟨h1,_⟩
  ·exact⟨h2,h3⟩
  ·exact absurd h1 hbad)
 have CCK:=hid2 (show ∀ w2,Calls Tryz.prog 12 #[.string X] w2 fun e w'=>e = .returned (.tuple #[.int .i64 (checkT mayB text).1,.int .i64 (checkT mayB text).2])∧Below w2.heap.size w2 w' from fun w2=>by
  have:=rcheck_any w2 (strB text) (by rw [strB_size];omega)
  rw [strB_list,← hX] at this
  exact this)
 obtain⟨ck,hck⟩:∃ ck:Int,ck=((checkT mayB text).1:Int):=⟨_,rfl⟩
 obtain⟨cl,hcl⟩:∃ cl:Int,cl=((checkT mayB text).2:Int):=⟨_,rfl⟩
 have hck0:¬ ck=0:=by omega
 have hckb:(ck == 0)=false:=by rw [beq_eq_false_iff_ne];exact hck0
 rw [← hck] at CST
 rw [← hck,← hcl] at CCK
 rw [← hX,← hun,← hen]
 clear hl hwe hwk hre hrk hX hun hen h1 htx hck hcl hbad
 go_enter Tryz.func3,Tryz.ntmps3
 go_wp2_with (first
  | (go_at_call 9; refine CAL.out.mono ?_;rintro e w1 ⟨rfl,hb⟩;have HB:=hid2 hb;clear hb CAL)
  | (go_at_call 10; refine (CW1.out _ HB.out).mono ?_;rintro e w1 ⟨rfl,hb⟩;have HB:=hid2 (HB.out.trans (hb.mono HB.out.size));clear hb CW1)
  | (go_at_call 11; refine (CST.out _ HB.out).mono ?_;rintro e w1 ⟨rfl,hb⟩;have HB:=hid2 (HB.out.trans (hb.mono HB.out.size));clear hb CST)
  | (go_at_call 12; refine (CCK.out _).mono ?_;rintro e w1 ⟨rfl,hb⟩;have HB:=hid2 (HB.out.trans (hb.mono HB.out.size));clear hb CCK))
 refine bodyPost_ret (results_tmp rfl _ _ _) rfl ?_
 exact⟨rfl,HB.out⟩
end Go.Proofs.YtnecjdhamohadaaGreatDoor
