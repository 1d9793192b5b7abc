/- A map whose keys are digests: read as a plain table of the bytes of its keys. -/
import Derived.Test.YtegkjmmknjhdiaaProg
import Derived.Test.YtegkjmmknjhdiaaDMap
import Derived.Test.YtegkjmmknjhdiaaMem3
import Derived.WideKeyArr2
import Derived.ChangeKeys
namespace Go.Proofs.Ytegkjmmknjhdiaa
open Go.RowKit Go.Maps Go.WideMaps Go.WideAt Go.MapKept Go.ChangeMaps
section
variable {α : Type} {enc : α → Value} {w : World} {P : Program} {k t e : TypeId} {b n : Nat} {M : Tab α}
theorem MapIs.look_key (h : MapIs w P k enc b n M) (hinj : ∀ a b, enc a = enc b → a = b) (K : Keyed P k) (ht : P.underlying t = some (.map k e)) (z0 : α) (hz : (zeroValue e).run P w = .ok (enc z0) w) {v : Value} {kk : List UInt8} (hk : keyOf P k v = some (.string kk)) :
    (Instr.lookup t (.map (some b)) v true).run P w = .ok (.tuple #[enc ((getM M kk).getD z0), .bool (getM M kk).isSome]) w := by
  obtain ⟨u, ps, hrun, hv⟩ := World.ownsMap.look_ok h K ht hz (elemR_mk hinj z0) hk
  rw [has_mapD] at hrun
  rw [atKey_mapD] at hv
  obtain ⟨a, rfl, ha⟩ := elemR_inv hv
  rw [hrun]
  cases hg : getM M kk with
  | none => rw [hg] at ha; injection ha with ha; subst ha; rfl
  | some x => rw [hg] at ha; injection ha with ha; subst ha; rfl
theorem MapIs.update_key (h : MapIs w P k enc b n M) (hinj : ∀ a b, enc a = enc b → a = b) (K : Keyed P k) (ht : P.underlying t = some (.map k e)) (hn : n < maxLen) {v : Value} {kk : List UInt8} (hk : keyOf P k v = some (.string kk)) (a : α) :
    ∃ w', (Instr.mapUpdate t (.map (some b)) v (enc a)).run P w = .ok () w' ∧ MapIs w' P k enc b (n + 1) (putM M kk a) ∧ Turn b w w' := by
  obtain ⟨w', hrun, h1, h2⟩ := World.ownsMap.store h K ht hn hk (elemR_mk hinj a)
  rw [mapD_put] at h1
  exact ⟨w', hrun, h1, turn_of h2⟩
theorem MapIs.drop_key (h : MapIs w P k enc b n M) (K : Keyed P k) (ht : P.underlying t = some (.map k e)) {v : Value} {kk : List UInt8} (hk : keyOf P k v = some (.string kk)) (ty : TypeId) :
    ∃ w', (Builtin.delete_ #[t, k] ty #[.map (some b), v]).run P w = .ok (.tuple #[]) w' ∧ MapIs w' P k enc b n (delM M kk) ∧ Turn b w w' := by
  obtain ⟨w', hrun, h1, h2⟩ := World.ownsMap.drop h K ht hk ty
  rw [mapD_del] at h1
  exact ⟨w', hrun, h1, turn_of h2⟩
theorem mapM_of {β : Type} {f : Nat → Option β} {g : Nat → β} : ∀ L : List Nat, (∀ i ∈ L, f i = some (g i)) → L.mapM f = some (L.map g)
  | [], _ => rfl
  | i :: L, h => by
    rw [List.mapM_cons, mapM_of L (fun j hj => h j (List.mem_cons_of_mem _ hj)), h i (List.mem_cons_self ..)]
    rfl
end
/-- a digest's bytes as a key's -/
def litsD (l : List UInt8) : List Lit := l.map fun b => .int .u8 b.toNat
def kb (l : List UInt8) : List UInt8 := keyBytes (litsD l)
def digV (l : List UInt8) : Value := .agg (u8s l).toArray
theorem arr_dig : ArrKey Try.prog 39 5 32 := ⟨Try.underlying39, by kernel_rfl, by kernel_rfl, by kernel_rfl⟩
theorem keyed_dig : Keyed Try.prog 39 := Keyed.of_law arr_dig.law
theorem wf_u8 (b : UInt8) : (Lit.int .u8 b.toNat).wf = true := by
  have := b.toNat_lt
  simp [Lit.wf, IntKind.min, IntKind.max, IntKind.signed, IntKind.bits]
  omega
theorem range_getD (l : List UInt8) : (List.range l.length).map (fun i => l.getD i 0) = l := by
  refine List.ext_getElem (by simp) fun i h1 h2 => ?_
  simp [List.getElem?_eq_getElem h2]
set_option maxRecDepth 100000 in
theorem keyOf_dig {l : List UInt8} (hl : l.length = 32) : keyOf Try.prog 39 (digV l) = some (.string (kb l)) := by
  have hsz : ∃ m, Try.prog.types.size = m + 1 := ⟨Try.prog.types.size - 1, by kernel_rfl⟩
  have hkt := arr_dig.keyType hsz
  obtain ⟨m, hm⟩ := hsz
  have hus : (u8s l).length = 32 := by simp [u8s, hl]
  have hc : ((digV l).cells).toList = u8s l := by simp [digV, Value.cells]
  unfold keyOf
  simp only [arr_dig.hu]
  rw [if_pos (by simp [hkt, Value.formed, digV, arr_dig.hu, arr_dig.size, hus]), hm, hc]
  unfold Program.keyLits
  simp only [arr_dig.hu]
  rw [if_pos (by rw [arr_dig.size]; exact hus)]
  have hstep : ∀ i ∈ List.range 32, Try.prog.keyLits (m + 1) 5 (((u8s l).drop (i * Try.prog.cellsOf 5)).take (Try.prog.cellsOf 5)) = some [Lit.int .u8 (l.getD i 0).toNat] := by
    intro i hi
    have hi := List.mem_range.1 hi
    rw [arr_dig.one, Nat.mul_one]
    have h1 : ((u8s l).drop i).take 1 = [.int .u8 (l.getD i 0).toNat] := by
      rw [List.drop_eq_getElem_cons (by rw [hus]; exact hi), List.take_succ_cons, List.take_zero]
      have := u8s_get l (show i < l.length by omega)
      rw [List.getElem?_eq_getElem (by rw [hus]; exact hi)] at this
      injection this with this
      rw [this]
    rw [h1]
    unfold Program.keyLits
    simp [Try.underlying5, wf_u8]
  rw [mapM_of _ hstep]
  have hr := range_getD l
  rw [hl] at hr
  have hfl : ∀ L : List Nat, (L.map fun i => [Lit.int .u8 ((l.getD i 0).toNat : Int)]).flatten = litsD (L.map fun i => l.getD i 0) := by
    intro L
    induction L with
    | nil => rfl
    | cons i L ih => rw [List.map_cons, List.flatten_cons, ih]; rfl
  simp only [Option.map_some, Option.some.injEq]
  rw [hfl, hr]
  rfl
theorem keyBytes_u8 (b : UInt8) : (Lit.int .u8 (b.toNat : Int)).keyBytes = [b] := by
  have h := b.toNat_lt
  have e : ((b.toNat : Int) % 2 ^ IntKind.u8.bits).toNat = b.toNat := by
    show ((b.toNat : Int) % 2 ^ 8).toNat = b.toNat
    omega
  show bytesBE (IntKind.u8.bits / 8) ((b.toNat : Int) % 2 ^ IntKind.u8.bits).toNat = [b]
  rw [e]
  show [UInt8.ofNat (b.toNat % 256)] = [b]
  rw [Nat.mod_eq_of_lt (by omega), UInt8.ofNat_toNat]
theorem kb_eq : ∀ l : List UInt8, kb l = l
  | [] => rfl
  | b :: l => by
    show (Lit.int .u8 (b.toNat : Int)).keyBytes ++ kb l = _
    rw [keyBytes_u8, kb_eq l]
    rfl
end Go.Proofs.Ytegkjmmknjhdiaa
