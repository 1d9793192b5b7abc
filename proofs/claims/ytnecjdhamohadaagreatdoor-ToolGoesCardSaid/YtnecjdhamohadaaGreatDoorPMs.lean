/- The statements' own functions: all that a tool does. -/
import Derived.Test.YtnecjdhamohadaaGreatDoorPMr
import Derived.Test.YtnecjdhamohadaaGreatDoorPMd
import Derived.DeepKeys
set_option linter.unusedSimpArgs false
set_option linter.unusedVariables false
namespace Go.Proofs.YtnecjdhamohadaaGreatDoor
open Go.RowKit Go.Maps Go.Shelf
set_option maxRecDepth 100000
def doVs (l:List DE):List Value:=l.flatMap doC
theorem doVs_snoc (l:List DE) (d:DE):doVs l++doC d=doVs (l++[d]):=by simp [doVs]
def orc (U:List KE) (p:TT):Option KE:=some (nrm (ansU U p))
def DoesIs (v:Env) (U:List KE) (text:TT) (D:List DE):Prop :=
 ((checkT mayB text).1≠0∧D=[]) ∨
 ((checkT mayB text).1=0∧∃ n S E,mrun v (orc U) n (PS.start (cmdsOf mayB (linesT text)),[])=(S,E)∧(S.over.kind=3∨S.over.kind=4)∧D=E++[S.over])
structure Mild (v:Env) (U:List KE) (text:TT):Prop where
 env:EnvFit v
 text:text.length≤100000
 small:allU U≤1000000
 len:U.length≤1000000
 data:∀ u∈U,u.path.length≤65536∧u.data.length≤65536
theorem ansU_mem (U:List KE) (p:TT):ansU U p∈U∨ansU U p=⟨p,false,[]⟩:=by
 unfold ansU
 cases h:U.find? fun x=>x.path == p with
 | none=>exact .inr rfl
 | some x=>exact .inl (List.mem_of_find?_eq_some h)
theorem ansU_path (U:List KE) (p:TT):(ansU U p).path=p:=by
 unfold ansU
 cases h:U.find? fun x=>x.path == p with
 | none=>rfl
 | some x =>
  have:=List.find?_some h
  simpa using this
theorem Mild.ans {v:Env} {U:List KE} {text:TT} (h:Mild v U text) (p:TT):(ansU U p).data.length≤65536:=by
 rcases ansU_mem U p with h1 | h1
 ·exact (h.data _ h1).2
 ·rw [h1];simp
theorem Mild.orc {v:Env} {U:List KE} {text:TT} (h:Mild v U text):∀ p k,orc U p=some k→k.is=true→k.data.length≤1000000:=fun p k hk hi=>by
 have h1:=h.ans p
 cases hk
 unfold nrm at hi ⊢
 by_cases hx:(ansU U p).is=true
 ·rw [if_pos hx]
  show (ansU U p).data.length≤1000000
  omega
 ·rw [if_neg hx] at hi
  cases hi
theorem cmds_few {text:TT} (h:(checkT mayB text).1=0):(cmdsOf mayB (linesT text)).length≤400:=by
 have h1:=cmdsOf_len mayB (linesT text)
 unfold checkT at h
 by_cases hb:65536 < text.length∨400 < (linesT text).length
 ·rw [if_pos hb] at h
  cases h
 ·omega
theorem Mild.start {v:Env} {U:List KE} {text:TT} (h:Mild v U text) (hok:(checkT mayB text).1=0):Inv U (PS.start (cmdsOf mayB (linesT text))):=inv_start (cmds_fit h.text) (by have:=cmds_few hok;omega) h.small
structure Lib3 (w:World):Prop where
 lib:MaxL w
 tabs:Lib.TabBelow Tryz.prog w.heap.size w "internal/strconv.uint64pow10" .u64 Lib.pow10Tab
theorem Lib3.on {w w':World} (h:Lib3 w) (hb:Below w.heap.size w w'):Lib3 w':=⟨h.lib.on hb,fun x hx=>h.tabs x (hb.trans (hx.mono hb.size))⟩
theorem Lib3.home {w w':World} (h:Lib3 w) {L:RLay} (hL:L.B=w.heap.size) (hb:Below w.heap.size w w'):Home w' L:=by
 obtain⟨m,hm⟩:=h.lib
 have hg:=World.block_lt_of_cell? _ _ hm
 exact⟨h.lib.on hb,by rw [hL];exact hg,by rw [hL];exact hb.size,by rw [hL];exact h.tabs.on hb⟩
theorem zero_doI:(Tryz.prog.info? 35).map (fun i=>(i.zero,i.size,i.bytes))=some (some (.agg #[.int .i64 0,.string ⟨#[]⟩,.string ⟨#[]⟩,.int .i64 0]),4,48):=by kernel_rfl
end Go.Proofs.YtnecjdhamohadaaGreatDoor
namespace Go.Proofs.YtnecjdhamohadaaGreatDoor
open Go.RowKit Go.Maps Go.Shelf
set_option maxRecDepth 100000
def FitDo (d:DE):Prop:=d.kind≤1000000∧d.why≤1000000∧d.path.length≤1000000000∧d.data.length≤1000000000
def litDo (d:DE):List Lit:=[.int .i64 d.kind,.string d.path,.string d.data,.int .i64 d.why]
theorem litDo_inj {a b:DE} (h:litDo a=litDo b):a=b:=by
 obtain⟨k,p,d,y⟩:=a
 obtain⟨k',p',d',y'⟩:=b
 simp only [litDo,List.cons.injEq,Lit.int.injEq,Lit.string.injEq,and_true,true_and] at h
 obtain⟨h1,h2,h3,h4⟩:=h
 have e1:k=k':=by omega
 have e4:y=y':=by omega
 subst e1 e4 h2 h3
 rfl
def sameD (a b:DE):Bool:=a.kind == b.kind && (a.path == b.path && (a.data == b.data && a.why == b.why))
theorem sameD_iff {a b:DE}:sameD a b=true ↔ a=b:=by
 obtain⟨k,p,d,y⟩:=a
 obtain⟨k',p',d',y'⟩:=b
 simp [sameD]
theorem lit_wf (n:Nat) (h:n≤1000000):(Lit.int .i64 (n:Int)).wf=true:=by
 have h0:IntKind.i64.min = -9223372036854775808:=by decide
 have h1:IntKind.i64.max=9223372036854775807:=by decide
 simp only [Lit.wf,Bool.and_eq_true,decide_eq_true_eq,h0,h1]
 omega
theorem keyLits_do (d:DE) (h:FitDo d):Tryz.prog.keyLits 2 35 (doC d)=some (litDo d):=by
 obtain⟨h1,h2,h3,h4⟩:=h
 have hu:=Tryz.underlying35
 have hui:=Tryz.underlying3
 have hue:=Tryz.underlying27
 have hus:=Tryz.underlying9
 have hc:Tryz.prog.cellsOf 35 = 4:=by kernel_rfl
 have hci:Tryz.prog.cellsOf 3 = 1:=by kernel_rfl
 have hce:Tryz.prog.cellsOf 27 = 1:=by kernel_rfl
 have hcs:Tryz.prog.cellsOf 9 = 1:=by kernel_rfl
 have w1:=lit_wf d.kind h1
 have w2:=lit_wf d.why h2
 have s1:(strB d.path).size≤maxLen:=by rw [strB_size];unfold maxLen;omega
 have s2:(strB d.data).size≤maxLen:=by rw [strB_size];unfold maxLen;omega
 simp [Program.keyLits,hu,hui,hue,hus,hc,hci,hce,hcs,doC,w1,w2,s1,s2,litDo,strB_list]
theorem formed_do (d:DE):(doA d).formed Tryz.prog 35 = true:=by
 have hu:=Tryz.underlying35
 have hc:Tryz.prog.cellsOf 35 = 4:=by kernel_rfl
 simp [Value.formed,hu,hc,doA,doC]
theorem run_eq_do (a b:DE) (ha:FitDo a) (hb:FitDo b) (w:World):(binOp .eql 35 (doA a) (doA b)).run Tryz.prog w = .ok (.bool (sameD a b)) w:=by
 have hE:EqAt Tryz.prog 10000 35:=run_equalIn_deep 9998 2 35 (by kernel_rfl)
 obtain⟨r,h1,h2⟩:=hE w 2 2 (doA a) (doA b) _ _ (formed_do a) (formed_do b) (by simpa [doA,Value.cells] using keyLits_do a ha) (by simpa [doA,Value.cells] using keyLits_do b hb)
 unfold doA at h1 ⊢
 rw [run_eql_struct,h1]
 have:r=sameD a b:=by
  rw [Bool.eq_iff_iff,h2,sameD_iff]
  exact⟨litDo_inj,fun e=>by rw [e]⟩
 rw [this]
 rfl
theorem run_neq_do (a b:DE) (ha:FitDo a) (hb:FitDo b) (w:World):(binOp .neq 35 (doA a) (doA b)).run Tryz.prog w = .ok (.bool (!sameD a b)) w:=by
 have hE:EqAt Tryz.prog 10000 35:=run_equalIn_deep 9998 2 35 (by kernel_rfl)
 obtain⟨r,h1,h2⟩:=hE w 2 2 (doA a) (doA b) _ _ (formed_do a) (formed_do b) (by simpa [doA,Value.cells] using keyLits_do a ha) (by simpa [doA,Value.cells] using keyLits_do b hb)
 unfold doA at h1 ⊢
 rw [run_neq_struct,h1]
 have:r=sameD a b:=by
  rw [Bool.eq_iff_iff,h2,sameD_iff]
  exact⟨litDo_inj,fun e=>by rw [e]⟩
 rw [this]
 rfl
theorem doVs_get:∀ {l:List DE} {k:Nat} {p:DE},l[k]?=some p→(doVs l)[k * 4]?=some (.int .i64 p.kind)∧(doVs l)[k * 4+1]?=some (.string (strB p.path))∧(doVs l)[k * 4+2]?=some (.string (strB p.data))∧(doVs l)[k * 4+3]?=some (.int .i64 p.why)
 | [],_,_,h=>by simp at h
 | x :: l,0,p,h=>by
  rw [List.getElem?_cons_zero] at h
  cases h
  exact⟨rfl,rfl,rfl,rfl⟩
 | x :: l,k+1,p,h=>by
  rw [List.getElem?_cons_succ] at h
  have:=doVs_get h
  have e1:(k+1) * 4=k * 4+4:=by omega
  rw [e1]
  exact this
end Go.Proofs.YtnecjdhamohadaaGreatDoor
namespace Go.Proofs.YtnecjdhamohadaaGreatDoor
open Go.RowKit Go.Maps Go.Shelf
set_option maxRecDepth 100000
end Go.Proofs.YtnecjdhamohadaaGreatDoor
