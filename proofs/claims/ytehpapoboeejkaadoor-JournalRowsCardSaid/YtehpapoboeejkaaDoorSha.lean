/- The sum of a text as a plain function of its bytes, and the laws on it that the walks and the joins use. Nothing of the program is named here. -/
namespace Go.Proofs.YtehpapoboeejkaaDoor.Sha

/-- turned right -/
def rotr (x : UInt32) (n : UInt32) : UInt32 := x >>> n ||| x <<< (32 - n)
def small0 (x : UInt32) : UInt32 := rotr x 7 ^^^ rotr x 18 ^^^ x >>> 3
def small1 (x : UInt32) : UInt32 := rotr x 17 ^^^ rotr x 19 ^^^ x >>> 10
def great0 (x : UInt32) : UInt32 := rotr x 2 ^^^ rotr x 13 ^^^ rotr x 22
def great1 (x : UInt32) : UInt32 := rotr x 6 ^^^ rotr x 11 ^^^ rotr x 25

def ks : List UInt32 := [
  0x428a2f98, 0x71374491, 0xb5c0fbcf, 0xe9b5dba5, 0x3956c25b, 0x59f111f1, 0x923f82a4, 0xab1c5ed5,
  0xd807aa98, 0x12835b01, 0x243185be, 0x550c7dc3, 0x72be5d74, 0x80deb1fe, 0x9bdc06a7, 0xc19bf174,
  0xe49b69c1, 0xefbe4786, 0x0fc19dc6, 0x240ca1cc, 0x2de92c6f, 0x4a7484aa, 0x5cb0a9dc, 0x76f988da,
  0x983e5152, 0xa831c66d, 0xb00327c8, 0xbf597fc7, 0xc6e00bf3, 0xd5a79147, 0x06ca6351, 0x14292967,
  0x27b70a85, 0x2e1b2138, 0x4d2c6dfc, 0x53380d13, 0x650a7354, 0x766a0abb, 0x81c2c92e, 0x92722c85,
  0xa2bfe8a1, 0xa81a664b, 0xc24b8b70, 0xc76c51a3, 0xd192e819, 0xd6990624, 0xf40e3585, 0x106aa070,
  0x19a4c116, 0x1e376c08, 0x2748774c, 0x34b0bcb5, 0x391c0cb3, 0x4ed8aa4a, 0x5b9cca4f, 0x682e6ff3,
  0x748f82ee, 0x78a5636f, 0x84c87814, 0x8cc70208, 0x90befffa, 0xa4506ceb, 0xbef9a3f7, 0xc67178f2]

/-- four bytes as a word, from place j on -/
def wordAt (b : List UInt8) (j : Nat) : UInt32 :=
  (b.getD j 0).toUInt32 <<< 24 ||| (b.getD (j + 1) 0).toUInt32 <<< 16 ||| (b.getD (j + 2) 0).toUInt32 <<< 8 ||| (b.getD (j + 3) 0).toUInt32
/-- the next word behind w, of which there are n + 16 -/
def nextWord (w : List UInt32) (n : Nat) : UInt32 :=
  w.getD n 0 + small0 (w.getD (n + 1) 0) + w.getD (n + 9) 0 + small1 (w.getD (n + 14) 0)
/-- the first n + 16 words of a block -/
def words (b : List UInt8) : Nat → List UInt32
  | 0 => (List.range 16).map fun i => wordAt b (4 * i)
  | n + 1 => words b n ++ [nextWord (words b n) n]

/-- eight words -/
structure S8 where
  a : UInt32
  b : UInt32
  c : UInt32
  d : UInt32
  e : UInt32
  f : UInt32
  g : UInt32
  h : UInt32

def S8.list (s : S8) : List UInt32 := [s.a, s.b, s.c, s.d, s.e, s.f, s.g, s.h]
def start : S8 := ⟨0x6a09e667, 0xbb67ae85, 0x3c6ef372, 0xa54ff53a, 0x510e527f, 0x9b05688c, 0x1f83d9ab, 0x5be0cd19⟩
def one (s : S8) (k w : UInt32) : UInt32 := s.h + great1 s.e + (s.e &&& s.f ^^^ ~~~s.e &&& s.g) + k + w
def two (s : S8) : UInt32 := great0 s.a + (s.a &&& s.b ^^^ s.a &&& s.c ^^^ s.b &&& s.c)
def step (s : S8) (k w : UInt32) : S8 := ⟨one s k w + two s, s.a, s.b, s.c, s.d + one s k w, s.e, s.f, s.g⟩
/-- behind n turns -/
def turns (w : List UInt32) (s : S8) : Nat → S8
  | 0 => s
  | n + 1 => step (turns w s n) (ks.getD n 0) (w.getD n 0)
def S8.plus (s t : S8) : S8 := ⟨s.a + t.a, s.b + t.b, s.c + t.c, s.d + t.d, s.e + t.e, s.f + t.f, s.g + t.g, s.h + t.h⟩
/-- behind a block -/
def block (s : S8) (b : List UInt8) : S8 := s.plus (turns (words b 48) s 64)
/-- behind n blocks -/
def blocks : Nat → S8 → List UInt8 → S8
  | 0, s, _ => s
  | n + 1, s, l => blocks n (block s (l.take 64)) (l.drop 64)

/-- eight bytes of a number, the greatest first -/
def eight (n : Nat) : List UInt8 := (List.range 8).map fun i => UInt8.ofNat (n / 2 ^ (56 - 8 * i) % 256)
/-- what stands behind a text of n bytes -/
def tail (n : Nat) : List UInt8 := 128 :: (List.replicate ((119 - n % 64) % 64) 0 ++ eight (8 * n))
def byteOf (s : S8) (i : Nat) : UInt8 := ((s.list.getD (i / 4) 0) >>> (UInt32.ofNat (24 - 8 * (i % 4)))).toUInt8
def out (s : S8) : List UInt8 := (List.range 32).map (byteOf s)
def whole (l : List UInt8) : List UInt8 := l ++ tail l.length
/-- the sum of a text -/
def sum (l : List UInt8) : List UInt8 := out (blocks ((whole l).length / 64) start (whole l))

theorem sum_abc : sum [97, 98, 99] = [0xba, 0x78, 0x16, 0xbf, 0x8f, 0x01, 0xcf, 0xea, 0x41, 0x41, 0x40, 0xde, 0x5d, 0xae, 0x22, 0x23, 0xb0, 0x03, 0x61, 0xa3, 0x96, 0x17, 0x7a, 0x9c, 0xb4, 0x10, 0xff, 0x61, 0xf2, 0x00, 0x15, 0xad] := by
  decide +kernel

end Go.Proofs.YtehpapoboeejkaaDoor.Sha
