/- The document's run of a tool: its state, in memory, and its small functions. -/
import Derived.Test.YtnecjdhamohadaaGreatDoorPMu
import Derived.Test.YtnecjdhamohadaaGreatDoorPMRf2
set_option linter.unusedSimpArgs false
set_option linter.unusedVariables false
namespace Go.Proofs.YtnecjdhamohadaaGreatDoor
open Go.RowKit Go.Maps Go.Shelf
set_option maxRecDepth 100000
theorem info_st (a b c d:Value) (s:ByteArray) (k y:Int):(Tryz.prog.info? 37).map (·.size)=some [.string s,a,b,.int .i64 k,c,d,.int .i64 y].length:=by kernel_rfl
theorem one_st {B P D:ByteArray} {AA AW:Option Addr} {an ac wn wc:Nat} {k y:Int}:∀ v∈[Value.string B,.slice AA an ac,.slice AW wn wc,.int .i64 k,.string P,.string D,.int .i64 y],v.oneCell'=true:=by simp [Value.oneCell']
theorem laid_st (B P D:ByteArray) (AA AW:Option Addr) (an ac wn wc:Nat) (k y:Int) (a0 a1 a2 a3 a4 a5 a6:Value):laid #[a0,a1,a2,a3,a4,a5,a6] 0 [Value.string B,.slice AA an ac,.slice AW wn wc,.int .i64 k,.string P,.string D,.int .i64 y]=#[Value.string B,.slice AA an ac,.slice AW wn wc,.int .i64 k,.string P,.string D,.int .i64 y]:=laid_all rfl
def RSA (w:World) (B:ByteArray) (AA:Option Addr) (an ac:Nat) (AW:Option Addr) (wn wc:Nat) (k:Int) (P D:ByteArray) (y:Int) (r:RS):Prop :=
 B=strB r.buf∧an=r.asked.length∧Own w 0 9 1 AA an ac (strV r.asked)∧wn=r.wrote.length∧Own w 0 35 4 AW wn wc (doVs r.wrote)∧k=r.stop.kind∧P=strB r.stop.path∧D=strB r.stop.data∧y=r.stop.why
theorem RSA.below {w w':World} {B:ByteArray} {AA:Option Addr} {an ac:Nat} {AW:Option Addr} {wn wc:Nat} {k:Int} {P D:ByteArray} {y:Int} {r:RS} (h:RSA w B AA an ac AW wn wc k P D y r) (hb:Below w.heap.size w w'):RSA w' B AA an ac AW wn wc k P D y r:=by
 obtain⟨h1,h2,h3,h4,h5,h6⟩:=h
 exact⟨h1,h2,h3.below hb (Nat.le_refl _),h4,h5.below hb (Nat.le_refl _),h6⟩
theorem RSA.fail {w:World} {B:ByteArray} {AA:Option Addr} {an ac:Nat} {AW:Option Addr} {wn wc:Nat} {k:Int} {P D:ByteArray} {y:Int} {r:RS} (h:RSA w B AA an ac AW wn wc k P D y r) (n:Nat):RSA w B AA an ac AW wn wc 4 ⟨#[]⟩ ⟨#[]⟩ n (r.fail n):=by
 obtain⟨h1,h2,h3,h4,h5,_⟩:=h
 exact⟨h1,h2,h3,h4,h5,rfl,rfl,rfl,rfl⟩
def StPost (w:World) (r:RS) (e:Ending) (w':World):Prop:=∃ (B:ByteArray) (AA:Option Addr) (an ac:Nat) (AW:Option Addr) (wn wc:Nat) (k:Int) (P D:ByteArray) (y:Int),e = .returned (.agg #[.string B,.slice AA an ac,.slice AW wn wc,.int .i64 k,.string P,.string D,.int .i64 y])∧RSA w' B AA an ac AW wn wc k P D y r∧Below w.heap.size w w'
set_option maxHeartbeats 4000000 in
theorem rfail_any (w:World) (B:ByteArray) (AA AW:Option Addr) (an ac wn wc:Nat) (k y0 y:Int) (P D:ByteArray) :
  Calls Tryz.prog 33 #[.agg #[.string B,.slice AA an ac,.slice AW wn wc,.int .i64 k,.string P,.string D,.int .i64 y0],.int .i64 y] w fun e w'=>e = .returned (.agg #[.string B,.slice AA an ac,.slice AW wn wc,.int .i64 4,.string ⟨#[]⟩,.string ⟨#[]⟩,.int .i64 y])∧Below w.heap.size w w':=by
 go_enter Tryz.func33,Tryz.ntmps33
 go_wp2_with fail
 refine bodyPost_ret (v:=.agg #[.string B,.slice AA an ac,.slice AW wn wc,.int .i64 4,.string ⟨#[]⟩,.string ⟨#[]⟩,.int .i64 y]) (results_cell_row rfl _ _ (w.heap.size+1) 37 _ (0,0) _ rfl (by rw [show w.heap.size+1=(w.alloc (.cells #[.string B,.slice AA an ac,.slice AW wn wc,.int .i64 4,.string ⟨#[]⟩,.string ⟨#[]⟩,.int .i64 y] 37)).heap.size from (World.size_alloc _ _).symm];exact World.alloc_heap_new _ _) Tryz.underlying37 rfl (by kernel_rfl)) rfl ?_
 exact⟨rfl,((Below.refl _ w).alloc (Nat.le_refl _) _).alloc (by rw [World.size_alloc];omega) _⟩
def addV (B T:ByteArray) (AA AW:Option Addr) (an ac wn wc:Nat) (k y:Int) (P D:ByteArray):Value :=
 if 65536 < B.size+T.size then .agg #[.string B,.slice AA an ac,.slice AW wn wc,.int .i64 4,.string ⟨#[]⟩,.string ⟨#[]⟩,.int .i64 6] else .agg #[.string (B++T),.slice AA an ac,.slice AW wn wc,.int .i64 k,.string P,.string D,.int .i64 y]
set_option maxHeartbeats 8000000 in
theorem radd_any (w:World) (B T:ByteArray) (AA AW:Option Addr) (an ac wn wc:Nat) (k y:Int) (P D:ByteArray) (hB:B.size≤100000000000) (hT:T.size≤100000000000) :
  Calls Tryz.prog 53 #[.agg #[.string B,.slice AA an ac,.slice AW wn wc,.int .i64 k,.string P,.string D,.int .i64 y],.string T] w fun e w'=>e = .returned (addV B T AA AW an ac wn wc k y P D)∧Below w.heap.size w w':=by
 have hw:IntKind.i64.wrap ((B.size:Int)+T.size)=(B.size:Int)+T.size:=IntWalk.i64_in _ (by constructor <;> omega)
 have hBi:(B.size:Int)≤100000000000:=by omega
 have hTi:(T.size:Int)≤100000000000:=by omega
 unfold addV
 by_cases hbig:65536 < B.size+T.size
 ·rw [if_pos hbig]
  have hbi:(65536:Int) < (B.size:Int)+T.size:=by omega
  clear hbig hB hT
  go_enter Tryz.func53,Tryz.ntmps53
  go_upto_region 2 with fail
  obtain⟨w1,hw1⟩:∃ w1,w1=(w.alloc (.cells #[.string B,.slice AA an ac,.slice AW wn wc,.int .i64 k,.string P,.string D,.int .i64 y] 37)).alloc (.cells #[.string ⟨#[]⟩,.slice none 0 0,.slice none 0 0,.int .i64 0,.string ⟨#[]⟩,.string ⟨#[]⟩,.int .i64 0] 37):=⟨_,rfl⟩
  have hb1:Below w.heap.size w w1:=by rw [hw1];exact ((Below.refl _ w).alloc (Nat.le_refl _) _).alloc (by rw [World.size_alloc];omega) _
  have hg1:w1.heap[w.heap.size+1]?=some (.cells #[.string ⟨#[]⟩,.slice none 0 0,.slice none 0 0,.int .i64 0,.string ⟨#[]⟩,.string ⟨#[]⟩,.int .i64 0] 37 (0,0)):=by
   rw [hw1,show w.heap.size+1=(w.alloc (.cells #[.string B,.slice AA an ac,.slice AW wn wc,.int .i64 k,.string P,.string D,.int .i64 y] 37)).heap.size from (World.size_alloc _ _).symm]
   exact World.alloc_heap_new _ _
  have hg0:w1.heap[w.heap.size]?=some (.cells #[.string B,.slice AA an ac,.slice AW wn wc,.int .i64 k,.string P,.string D,.int .i64 y] 37 (0,0)):=by
   rw [hw1,Below.heap_alloc _ _ _ (by simp)]
   exact World.alloc_heap_new _ _
  rw [← hw1]
  obtain⟨g0,hg0e⟩:∃ g,g=w.heap.size:=⟨_,rfl⟩
  rw [← hg0e] at hg0 hg1 ⊢
  obtain⟨g1,hg1e⟩:∃ g,g=g0+1:=⟨_,rfl⟩
  rw [← hg1e] at hg1 ⊢
  have y0:=cell_of_row w1 g0 0 _ _ _ hg0
  have y1:=cell_of_row w1 g0 1 _ _ _ hg0
  have y2:=cell_of_row w1 g0 2 _ _ _ hg0
  have y3:=cell_of_row w1 g0 3 _ _ _ hg0
  have y4:=cell_of_row w1 g0 4 _ _ _ hg0
  have y5:=cell_of_row w1 g0 5 _ _ _ hg0
  have y6:=cell_of_row w1 g0 6 _ _ _ hg0
  have HB1:=hid2 hb1
  have HG1:=hid2 hg1
  have HGE:=hid2 (show g0≤g1 from by omega)
  have HG0:=hid2 hg0e
  clear hw1 hg0 hg0e hg1e hb1 hg1
  go_wp2_with (first
   | (go_at_call 33; refine (rfail_any _ B AA AW an ac wn wc k y 6 P D).mono ?_;rintro e w2 ⟨rfl,hb⟩;have HB2:=hid2 hb;have hg2:=(hb.block g1 (heap_lt HG1.out)).trans HG1.out;clear hb)
   | ((with_reducible refine wpList_store_lit g1 0 (.agg #[.string B,.slice AA an ac,.slice AW wn wc,.int .i64 4,.string ⟨#[]⟩,.string ⟨#[]⟩,.int .i64 6]) [.string B,.slice AA an ac,.slice AW wn wc,.int .i64 4,.string ⟨#[]⟩,.string ⟨#[]⟩,.int .i64 6] rfl #[.string ⟨#[]⟩,.slice none 0 0,.slice none 0 0,.int .i64 0,.string ⟨#[]⟩,.string ⟨#[]⟩,.int .i64 0] 37 hg2 (info_st _ _ _ _ _ _ _) (Nat.le_refl _) one_st ?_ ?_);exact⟨rfl,rfl⟩;rw [laid_st]))
  simp only [Act.put]
  refine bodyPost_ret (v:=.agg #[.string B,.slice AA an ac,.slice AW wn wc,.int .i64 4,.string ⟨#[]⟩,.string ⟨#[]⟩,.int .i64 6]) (results_cell_row rfl _ _ g1 37 _ (0,0) _ rfl (setRow_heap w2 g1 _ _ _ _ hg2) Tryz.underlying37 rfl (by kernel_rfl)) rfl ?_
  exact⟨rfl,below_setRow (HB1.out.trans (HB2.out.mono HB1.out.size)) (by have:=HGE.out;have:=HG0.out;omega) _⟩
 ·rw [if_neg hbig]
  have hbi:¬ (65536:Int) < (B.size:Int)+T.size:=by omega
  have hadd:¬ (B.size+T.size > 9223372036854775807):=by omega
  clear hbig hB hT
  go_enter Tryz.func53,Tryz.ntmps53
  go_wp2_with fail
  refine bodyPost_ret (v:=.agg #[.string (B++T),.slice AA an ac,.slice AW wn wc,.int .i64 k,.string P,.string D,.int .i64 y]) (results_cell_row rfl _ _ (w.heap.size+1) 37 _ (0,0) _ rfl (by rw [show w.heap.size+1=(w.alloc (.cells #[.string (B++T),.slice AA an ac,.slice AW wn wc,.int .i64 k,.string P,.string D,.int .i64 y] 37)).heap.size from (World.size_alloc _ _).symm];exact World.alloc_heap_new _ _) Tryz.underlying37 rfl (by kernel_rfl)) rfl ?_
  exact⟨rfl,((Below.refl _ w).alloc (Nat.le_refl _) _).alloc (by rw [World.size_alloc];omega) _⟩
theorem radd_st (w:World) (B T:ByteArray) (AA AW:Option Addr) (an ac wn wc:Nat) (k y:Int) (P D:ByteArray) (r:RS) (h:RSA w B AA an ac AW wn wc k P D y r) (hB:r.buf.length≤100000000000) (t:TT) (ht:T=strB t) (hT:t.length≤100000000000) :
  Calls Tryz.prog 53 #[.agg #[.string B,.slice AA an ac,.slice AW wn wc,.int .i64 k,.string P,.string D,.int .i64 y],.string T] w (StPost w (r.add t)):=by
 have hBs:B.size=r.buf.length:=by rw [h.1,strB_size]
 have hTs:T.size=t.length:=by rw [ht,strB_size]
 refine (radd_any w B T AA AW an ac wn wc k y P D (by omega) (by omega)).mono ?_
 rintro e w' ⟨rfl,hb⟩
 have h2:=h.below hb
 unfold addV RS.add
 by_cases hbig:65536 < r.buf.length+t.length
 ·have hb2:65536 < B.size+T.size:=by omega
  rw [if_pos hb2,if_pos hbig]
  exact⟨B,AA,an,ac,AW,wn,wc,4,_,_,6,rfl,h2.fail 6,hb⟩
 ·have hb2:¬ 65536 < B.size+T.size:=by omega
  rw [if_neg hb2,if_neg hbig]
  obtain⟨h3,h4⟩:=h2
  refine⟨B++T,AA,an,ac,AW,wn,wc,k,P,D,y,rfl,⟨?_,h4⟩,hb⟩
  exact strB_eq (by rw [string_append_toList,h3,ht,strB_list,strB_list])
theorem rfail_st (w:World) (B:ByteArray) (AA AW:Option Addr) (an ac wn wc:Nat) (k y0:Int) (P D:ByteArray) (r:RS) (h:RSA w B AA an ac AW wn wc k P D y0 r) (n:Nat) :
  Calls Tryz.prog 33 #[.agg #[.string B,.slice AA an ac,.slice AW wn wc,.int .i64 k,.string P,.string D,.int .i64 y0],.int .i64 n] w (StPost w (r.fail n)):=by
 refine (rfail_any w B AA AW an ac wn wc k y0 n P D).mono ?_
 rintro e w' ⟨rfl,hb⟩
 exact⟨B,AA,an,ac,AW,wn,wc,4,_,_,n,rfl,(h.below hb).fail n,hb⟩
end Go.Proofs.YtnecjdhamohadaaGreatDoor
