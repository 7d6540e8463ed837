/- SHA-256 as plain functions on words of 32 bits and lists of bytes: what both texts (the program's package sha and the reference joustref01) compute. No program in sight. -/
namespace Go.Proofs.YtejlffeiebfboaaGreatDoor.Sha

abbrev W32 := BitVec 32

def rotr (x : W32) (n : Nat) : W32 := (x <<< (32 - n)) ||| (x >>> n)

structure St where
  a : W32
  b : W32
  c : W32
  d : W32
  e : W32
  f : W32
  g : W32
  h : W32

def step (s : St) (k w : W32) : St :=
  let x := s.h + ((rotr s.e 6 ^^^ rotr s.e 11) ^^^ rotr s.e 25) + ((s.e &&& s.f) ^^^ ((~~~ s.e) &&& s.g)) + k + w
  let y := ((rotr s.a 2 ^^^ rotr s.a 13) ^^^ rotr s.a 22) + (((s.a &&& s.b) ^^^ (s.a &&& s.c)) ^^^ (s.b &&& s.c))
  ⟨x + y, s.a, s.b, s.c, s.d + x, s.e, s.f, s.g⟩

def add (s t : St) : St := ⟨s.a + t.a, s.b + t.b, s.c + t.c, s.d + t.d, s.e + t.e, s.f + t.f, s.g + t.g, s.h + t.h⟩

def St.list (s : St) : List W32 := [s.a, s.b, s.c, s.d, s.e, s.f, s.g, s.h]

def roundsN : List Nat := [
  0x428a2f98, 0x71374491, 0xb5c0fbcf, 0xe9b5dba5, 0x3956c25b, 0x59f111f1, 0x923f82a4, 0xab1c5ed5,
  0xd807aa98, 0x12835b01, 0x243185be, 0x550c7dc3, 0x72be5d74, 0x80deb1fe, 0x9bdc06a7, 0xc19bf174,
  0xe49b69c1, 0xefbe4786, 0x0fc19dc6, 0x240ca1cc, 0x2de92c6f, 0x4a7484aa, 0x5cb0a9dc, 0x76f988da,
  0x983e5152, 0xa831c66d, 0xb00327c8, 0xbf597fc7, 0xc6e00bf3, 0xd5a79147, 0x06ca6351, 0x14292967,
  0x27b70a85, 0x2e1b2138, 0x4d2c6dfc, 0x53380d13, 0x650a7354, 0x766a0abb, 0x81c2c92e, 0x92722c85,
  0xa2bfe8a1, 0xa81a664b, 0xc24b8b70, 0xc76c51a3, 0xd192e819, 0xd6990624, 0xf40e3585, 0x106aa070,
  0x19a4c116, 0x1e376c08, 0x2748774c, 0x34b0bcb5, 0x391c0cb3, 0x4ed8aa4a, 0x5b9cca4f, 0x682e6ff3,
  0x748f82ee, 0x78a5636f, 0x84c87814, 0x8cc70208, 0x90befffa, 0xa4506ceb, 0xbef9a3f7, 0xc67178f2]
def K (t : Nat) : W32 := BitVec.ofNat 32 (roundsN.getD t 0)

def init : St := ⟨0x6a09e667, 0xbb67ae85, 0x3c6ef372, 0xa54ff53a, 0x510e527f, 0x9b05688c, 0x1f83d9ab, 0x5be0cd19⟩

/-- Four bytes as a word. -/
def be (p q r s : UInt8) : W32 := (((BitVec.ofNat 32 p.toNat <<< 24) ||| (BitVec.ofNat 32 q.toNat <<< 16)) ||| (BitVec.ofNat 32 r.toNat <<< 8)) ||| BitVec.ofNat 32 s.toNat

/-- The word number t of a block. -/
def word (blk : List UInt8) (t : Nat) : W32 := be (blk.getD (4 * t) 0) (blk.getD (4 * t + 1) 0) (blk.getD (4 * t + 2) 0) (blk.getD (4 * t + 3) 0)

/-- One word more of the plan. -/
def ext (l : List W32) : List W32 :=
  let t := l.length
  let x := l.getD (t - 15) 0
  let y := l.getD (t - 2) 0
  l ++ [((((rotr y 17 ^^^ rotr y 19) ^^^ (y >>> 10)) + l.getD (t - 7) 0) + ((rotr x 7 ^^^ rotr x 18) ^^^ (x >>> 3))) + l.getD (t - 16) 0]

def extN : Nat → List W32 → List W32
  | 0, l => l
  | n + 1, l => extN n (ext l)

def first16 (blk : List UInt8) : List W32 := (List.range 16).map (word blk)

/-- The sixty-four words of a block. -/
def plan (blk : List UInt8) : List W32 := extN 48 (first16 blk)

/-- The first t steps. -/
def steps (w : List W32) (s : St) : Nat → St
  | 0 => s
  | t + 1 => step (steps w s t) (K t) (w.getD t 0)

def compress (s : St) (blk : List UInt8) : St := add s (steps (plan blk) s 64)

/-- n blocks are taken in. -/
def absorbN : Nat → St → List UInt8 → St
  | 0, s, _ => s
  | n + 1, s, m => absorbN n (compress s (m.take 64)) (m.drop 64)

/-- All whole blocks. -/
def absorb (s : St) (m : List UInt8) : St := absorbN (m.length / 64) s m

def beBytes4 (x : W32) : List UInt8 := [UInt8.ofNat (x >>> 24).toNat, UInt8.ofNat (x >>> 16).toNat, UInt8.ofNat (x >>> 8).toNat, UInt8.ofNat x.toNat]

/-- n bytes of a number, the highest first. -/
def beBytes (n : Nat) (x : Nat) : List UInt8 := (List.range n).map fun i => UInt8.ofNat (x / 256 ^ (n - 1 - i))

/-- What stands behind a text of n bytes. -/
def tail (n : Nat) : List UInt8 := 128 :: List.replicate ((119 - n % 64) % 64) 0 ++ beBytes 8 (8 * n % 18446744073709551616)

def digest (s : St) : List UInt8 := (s.list.map beBytes4).flatten

/-- SHA-256. -/
def hash (m : List UInt8) : List UInt8 := digest (absorb init (m ++ tail m.length))

/-- A key brought to 64 bytes. -/
def keyed (key : List UInt8) : List UInt8 :=
  let k := if 64 < key.length then hash key else key
  k ++ List.replicate (64 - k.length) 0

/-- HMAC. -/
def hmac (key text : List UInt8) : List UInt8 :=
  hash ((keyed key).map (· ^^^ 0x5c) ++ hash ((keyed key).map (· ^^^ 0x36) ++ text))

end Go.Proofs.YtejlffeiebfboaaGreatDoor.Sha
