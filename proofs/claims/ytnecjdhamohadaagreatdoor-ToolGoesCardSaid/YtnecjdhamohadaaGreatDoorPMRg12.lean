/- The document's run of a tool: one command, whichever. -/
import Derived.Test.YtnecjdhamohadaaGreatDoorPMRg11
set_option linter.unusedSimpArgs false
set_option linter.unusedVariables false
namespace Go.Proofs.YtnecjdhamohadaaGreatDoor
open Go.RowKit Go.Maps Go.Shelf
set_option maxRecDepth 100000
theorem len_one {l:List TT} (h:l.length=1):∃ x,l=[x]:=by
 match l,h with
 | [x],_=>exact⟨x,rfl⟩
theorem len_two {l:List TT} (h:l.length=2):∃ x y,l=[x,y]:=by
 match l,h with
 | [x,y],_=>exact⟨x,y,rfl⟩
set_option maxHeartbeats 4000000 in
theorem rstep_any (w:World) (B:ByteArray) (AA:Option Addr) (an ac:Nat) (AW:Option Addr) (wn wc:Nat) (k:Int) (P D:ByteArray) (y:Int) (r:RS) (h:RSA w B AA an ac AW wn wc k P D y r) (hs:r.Small) (hwr:r.wrote.length≤1000000) (EA:Option Addr) (en ec:Nat) (KA:Option Addr) (kn kc:Nat) (line:TT) (hln:line.length≤65536) (WA:Option Addr) (qn qc:Nat) (hqn:qn=(wordsT line).length) (hrw:Rd w 1 WA qn (strV (wordsT line))) (hwt:∀ b,blockOf WA=some b→∃ cur fr,w.heap[b]?=some (.cells cur 9 fr)) (hok:okW mayB (wordsT line)=true)
  (E:List (TT × TT)) (hen:en=E.length) (hel:en≤1000000) (hre:Rd w 2 EA en (setV E)) (hev:∀ x∈E,x.2.length≤100000000000) (K:List KE) (hkn:kn=K.length) (hK:K.length≤1000000) (hKd:∀ k∈K,k.path.length≤1000000∧k.data.length≤100000) (hrk:Rd w 3 KA K.length (kV K)) (N:Nat) (hN:K.length < N) :
  Calls Tryz.prog 34 #[.agg #[.string B,.slice AA an ac,.slice AW wn wc,.int .i64 k,.string P,.string D,.int .i64 y],.slice EA en ec,.slice KA kn kc,.string (strB line),.slice WA qn qc] w (StPost w (r.step ⟨mayB,E⟩ (orK K) N (cmdW line))):=by
 have hwl:∀ x∈wordsT line,x.length≤65536:=fun x hx=>by
  have:=(wordsT_mem hx).2.2
  omega
 cases hw:wordsT line with
 | nil=>rw [hw] at hok;cases hok
 | cons a rest =>
  rw [hw] at hok hrw hqn hwl
  have hq0:0 < qn:=by rw [hqn];simp
  by_cases ht:a=kText
  ·have hst:r.step ⟨mayB,E⟩ (orK K) N (cmdW line)=r.add (behindT line++[10]):=by
    unfold cmdW
    rw [hw]
    simp [ht,RS.step]
   rw [hst]
   exact rstep_text w B AA an ac AW wn wc k P D y r h hs EA en ec KA kn kc line hln WA qn qc (a :: rest) a rfl ht hq0 hrw
  ·have hcm:cmdW line=⟨a :: rest,[]⟩:=by
    unfold cmdW
    rw [hw]
    simp [ht]
   rw [hcm]
   simp only [okW,Bool.or_eq_true,Bool.and_eq_true,decide_eq_true_eq] at hok
   have hok2:=hok.resolve_left ht
   obtain⟨⟨hn1,hn0⟩,_⟩:=hok2
   unfold takesT at hn1 hn0
   have one:rest.length=1→∃ arg,rest=[arg]∧(a :: rest)[1]?=some arg∧1 < qn∧arg.length≤65536:=fun hl=>by
    obtain⟨x,rfl⟩:=len_one hl
    exact⟨x,rfl,rfl,by rw [hqn];simp,hwl x (by simp)⟩
   have ask:∀ arg,(a=kRead∨a=kTry)→rest=[arg]→1 < qn→arg.length≤65536→Calls Tryz.prog 34 #[.agg #[.string B,.slice AA an ac,.slice AW wn wc,.int .i64 k,.string P,.string D,.int .i64 y],.slice EA en ec,.slice KA kn kc,.string (strB line),.slice WA qn qc] w (StPost w (r.step ⟨mayB,E⟩ (orK K) N ⟨a :: rest,[]⟩)):=fun arg hn hr hq1 hal=>by
    subst hr
    have hst:r.step ⟨mayB,E⟩ (orK K) N ⟨[a,arg],[]⟩=(if (r.ask (orK K) arg).1.stop.kind≠0 then (r.ask (orK K) arg).1 else if (r.ask (orK K) arg).2.is=true then (r.ask (orK K) arg).1.add (r.ask (orK K) arg).2.data else if a=kRead then (r.ask (orK K) arg).1.fail 10 else (r.ask (orK K) arg).1):=by
     simp only [RS.step]
     rw [if_pos (by simpa using hn)]
     rfl
    rw [hst]
    by_cases hx:(r.ask (orK K) arg).1.stop.kind=0
    ·rw [if_neg (by rw [hx];simp)]
     cases hi:(r.ask (orK K) arg).2.is with
     | true =>
      rw [if_pos rfl]
      rcases hn with hn | hn
      ·exact rstep_rt_is w B AA an ac AW wn wc k P D y r h hs EA en ec KA kn kc line hln WA qn qc [a,arg] a rfl (.inl hn) hq0 hrw arg rfl hq1 hal K hkn hK hKd hrk hwt hx hi
      ·exact rstep_rt_is w B AA an ac AW wn wc k P D y r h hs EA en ec KA kn kc line hln WA qn qc [a,arg] a rfl (.inr hn) hq0 hrw arg rfl hq1 hal K hkn hK hKd hrk hwt hx hi
     | false =>
      rw [if_neg (by simp)]
      rcases hn with hn | hn
      ·rw [if_pos hn]
       have hrn:=rstep_rt_none w B AA an ac AW wn wc k P D y r h hs EA en ec KA kn kc line hln WA qn qc [a,arg] a rfl (.inl hn) hq0 hrw arg rfl hq1 hal K hkn hK hKd hrk hwt hx hi
       rw [if_pos hn] at hrn
       exact hrn
      ·rw [if_neg (by rw [hn];decide)]
       have hrn:=rstep_rt_none w B AA an ac AW wn wc k P D y r h hs EA en ec KA kn kc line hln WA qn qc [a,arg] a rfl (.inr hn) hq0 hrw arg rfl hq1 hal K hkn hK hKd hrk hwt hx hi
       rw [if_neg (by rw [hn];decide)] at hrn
       exact hrn
    ·rw [if_pos hx]
     rcases hn with hn | hn
     ·exact rstep_rt_stop w B AA an ac AW wn wc k P D y r h hs EA en ec KA kn kc line hln WA qn qc [a,arg] a rfl (.inl hn) hq0 hrw arg rfl hq1 hal K hkn hK hKd hrk hwt hx
     ·exact rstep_rt_stop w B AA an ac AW wn wc k P D y r h hs EA en ec KA kn kc line hln WA qn qc [a,arg] a rfl (.inr hn) hq0 hrw arg rfl hq1 hal K hkn hK hKd hrk hwt hx
   have turn:a≠kRead→a≠kTry→a≠kScan→a≠kEnv→a≠kFail→a≠kNeed→a≠kKeep→a≠kWrite→Calls Tryz.prog 34 #[.agg #[.string B,.slice AA an ac,.slice AW wn wc,.int .i64 k,.string P,.string D,.int .i64 y],.slice EA en ec,.slice KA kn kc,.string (strB line),.slice WA qn qc] w (StPost w (r.step ⟨mayB,E⟩ (orK K) N ⟨a :: rest,[]⟩)):=fun n1 n2 n3 n4 n5 n6 n7 n8=>by
    have hst:r.step ⟨mayB,E⟩ (orK K) N ⟨a :: rest,[]⟩=RS.add { r with buf:=[] } (turnedR a r.buf):=by
     simp [RS.step,n1,n2,n3,ht,n4,n5,n6,n7,n8]
    rw [hst]
    exact rstep_turn w B AA an ac AW wn wc k P D y r h hs EA en ec KA kn kc line hln WA qn qc (a :: rest) a rfl rfl hq0 hrw n1 n2 n3 ht n4 n5 n6 n7 n8
   split at hn1
   ·rename_i hc
    obtain⟨arg,hr,ha1,hq1,hal⟩:=one (by simp at hn1;omega)
    rcases hc with hc | hc | hc
    ·exact ask arg (.inl hc) hr hq1 hal
    ·exact ask arg (.inr hc) hr hq1 hal
    ·have hst:r.step ⟨mayB,E⟩ (orK K) N ⟨a :: rest,[]⟩={ r with wrote:=r.wrote++[DE.mk 2 arg r.buf 0],buf:=[] }:=by
      rw [hr,hc]
      simp [RS.step]
     rw [hst]
     exact rstep_write w B AA an ac AW wn wc k P D y r h hs EA en ec KA kn kc line hln WA qn qc (a :: rest) a rfl hc hq0 hrw arg ha1 hq1 hal hwr hwt
   ·split at hn1
    ·rename_i hc
     obtain⟨arg,W,hr⟩:=len_two (l:=rest) (by simp at hn1;omega)
     subst hr
     have hst:r.step ⟨mayB,E⟩ (orK K) N ⟨[a,arg,W],[]⟩=(scanF ⟨mayB,E⟩ (orK K) W N r arg []).1:=by
      rw [hc]
      simp [RS.step]
     rw [hst]
     exact rstep_scan w B AA an ac AW wn wc k P D y r h hs EA en ec KA kn kc line hln WA qn qc [a,arg,W] a rfl hc hq0 hrw arg rfl (by rw [hqn];simp) (hwl arg (by simp)) W rfl (by rw [hqn];simp) ⟨mayB,E⟩ rfl N K hkn hK hKd hrk hN hwt
    ·split at hn1
     ·rename_i hc
      obtain⟨arg,hr,ha1,hq1,hal⟩:=one (by simp at hn1;omega)
      rcases hc with hc | hc | hc
      ·have hst:r.step ⟨mayB,E⟩ (orK K) N ⟨a :: rest,[]⟩=(match E.find? fun x=>x.1 == arg with | none=>r.fail 10 | some x=>r.add x.2):=by
        rw [hr,hc]
        simp [RS.step]
        cases E.find? (fun x=>x.1 == arg) <;> rfl
       rw [hst]
       exact rstep_env w B AA an ac AW wn wc k P D y r h hs EA en ec KA kn kc line hln WA qn qc (a :: rest) a rfl hc hq0 hrw arg ha1 hq1 hal E hen hel hre hev
      ·have hst:r.step ⟨mayB,E⟩ (orK K) N ⟨a :: rest,[]⟩=RS.add { r with buf:=[] } (wholeT ((linesT r.buf).filter (hasT · arg))):=by
        rw [hr,hc]
        simp [RS.step]
       rw [hst]
       exact rstep_keep w B AA an ac AW wn wc k P D y r h hs EA en ec KA kn kc line hln WA qn qc (a :: rest) a rfl hc hq0 hrw arg ha1 hq1 hal
      ·cases hany:(linesT r.buf).any (hasT · arg) with
       | true =>
        have hst:r.step ⟨mayB,E⟩ (orK K) N ⟨a :: rest,[]⟩=r:=by
         rw [hr,hc]
         simp only [RS.step,List.headD_cons,List.drop_succ_cons,List.drop_zero]
         rw [if_neg (by decide),if_neg (by decide),if_neg (by decide),if_neg (by decide),if_neg (by decide),if_pos trivial,if_pos hany]
        rw [hst]
        exact rstep_need1 w B AA an ac AW wn wc k P D y r h hs EA en ec KA kn kc line hln WA qn qc (a :: rest) a rfl hc hq0 hrw arg ha1 hq1 hal hany
       | false =>
        have hst:r.step ⟨mayB,E⟩ (orK K) N ⟨a :: rest,[]⟩=r.fail 15:=by
         rw [hr,hc]
         simp only [RS.step,List.headD_cons,List.drop_succ_cons,List.drop_zero]
         rw [if_neg (by decide),if_neg (by decide),if_neg (by decide),if_neg (by decide),if_neg (by decide),if_pos trivial,if_neg (by rw [hany];decide)]
        rw [hst]
        exact rstep_need0 w B AA an ac AW wn wc k P D y r h hs EA en ec KA kn kc line hln WA qn qc (a :: rest) a rfl hc hq0 hrw arg ha1 hq1 hal hany
     ·split at hn1
      ·rename_i hc
       rcases hc with hc | hc | hc | hc | hc
       ·exact turn (by rw [hc];decide) (by rw [hc];decide) (by rw [hc];decide) (by rw [hc];decide) (by rw [hc];decide) (by rw [hc];decide) (by rw [hc];decide) (by rw [hc];decide)
       ·exact turn (by rw [hc];decide) (by rw [hc];decide) (by rw [hc];decide) (by rw [hc];decide) (by rw [hc];decide) (by rw [hc];decide) (by rw [hc];decide) (by rw [hc];decide)
       ·exact turn (by rw [hc];decide) (by rw [hc];decide) (by rw [hc];decide) (by rw [hc];decide) (by rw [hc];decide) (by rw [hc];decide) (by rw [hc];decide) (by rw [hc];decide)
       ·exact turn (by rw [hc];decide) (by rw [hc];decide) (by rw [hc];decide) (by rw [hc];decide) (by rw [hc];decide) (by rw [hc];decide) (by rw [hc];decide) (by rw [hc];decide)
       ·have hst:r.step ⟨mayB,E⟩ (orK K) N ⟨a :: rest,[]⟩=r.fail 15:=by
         rw [hc]
         simp [RS.step]
        rw [hst]
        exact rstep_fail w B AA an ac AW wn wc k P D y r h hs EA en ec KA kn kc line hln WA qn qc (a :: rest) a rfl hc hq0 hrw
      ·simp at hn1
end Go.Proofs.YtnecjdhamohadaaGreatDoor
