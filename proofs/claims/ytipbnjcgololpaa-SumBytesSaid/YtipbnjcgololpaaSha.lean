/-! SHA-256, plainly -/
namespace Go.Proofs.Ytipbnjcgololpaa.Sha
def ror (x n : Nat) : Nat := x / 2 ^ n + x * 2 ^ (32 - n) % 4294967296
def sg0 (x : Nat) : Nat := ror x 7 ^^^ ror x 18 ^^^ x / 8
def sg1 (x : Nat) : Nat := ror x 17 ^^^ ror x 19 ^^^ x / 1024
def Sg0 (a : Nat) : Nat := ror a 2 ^^^ ror a 13 ^^^ ror a 22
def Sg1 (e : Nat) : Nat := ror e 6 ^^^ ror e 11 ^^^ ror e 25
def ch (e f g : Nat) : Nat := (e &&& f) ^^^ ((4294967295 - e) &&& g)
def maj (a b c : Nat) : Nat := (a &&& b) ^^^ (a &&& c) ^^^ (b &&& c)
structure St where
  (a b c d e f g h : Nat)
def rnd (s : St) (k w : Nat) : St :=
  let t := (s.h + Sg1 s.e + ch s.e s.f s.g + k + w) % 4294967296
  let u := (Sg0 s.a + maj s.a s.b s.c) % 4294967296
  ⟨(t + u) % 4294967296, s.a, s.b, s.c, (s.d + t) % 4294967296, s.e, s.f, s.g⟩
def K : List Nat := [
  0x428a2f98, 0x71374491, 0xb5c0fbcf, 0xe9b5dba5, 0x3956c25b, 0x59f111f1, 0x923f82a4, 0xab1c5ed5,
  0xd807aa98, 0x12835b01, 0x243185be, 0x550c7dc3, 0x72be5d74, 0x80deb1fe, 0x9bdc06a7, 0xc19bf174,
  0xe49b69c1, 0xefbe4786, 0x0fc19dc6, 0x240ca1cc, 0x2de92c6f, 0x4a7484aa, 0x5cb0a9dc, 0x76f988da,
  0x983e5152, 0xa831c66d, 0xb00327c8, 0xbf597fc7, 0xc6e00bf3, 0xd5a79147, 0x06ca6351, 0x14292967,
  0x27b70a85, 0x2e1b2138, 0x4d2c6dfc, 0x53380d13, 0x650a7354, 0x766a0abb, 0x81c2c92e, 0x92722c85,
  0xa2bfe8a1, 0xa81a664b, 0xc24b8b70, 0xc76c51a3, 0xd192e819, 0xd6990624, 0xf40e3585, 0x106aa070,
  0x19a4c116, 0x1e376c08, 0x2748774c, 0x34b0bcb5, 0x391c0cb3, 0x4ed8aa4a, 0x5b9cca4f, 0x682e6ff3,
  0x748f82ee, 0x78a5636f, 0x84c87814, 0x8cc70208, 0x90befffa, 0xa4506ceb, 0xbef9a3f7, 0xc67178f2]
def word (l : List Nat) (i : Nat) : Nat := l.getD i 0 * 16777216 + l.getD (i + 1) 0 * 65536 + l.getD (i + 2) 0 * 256 + l.getD (i + 3) 0
def next (w : List Nat) (i : Nat) : Nat := (w.getD (i - 16) 0 + sg0 (w.getD (i - 15) 0) + w.getD (i - 7) 0 + sg1 (w.getD (i - 2) 0)) % 4294967296
/-- the first n words of a block -/
def sch (l : List Nat) : Nat → List Nat
  | 0 => []
  | i + 1 => let w := sch l i; w ++ [if i < 16 then word l (4 * i) else next w i]
def rn (w : List Nat) (s : St) : Nat → St
  | 0 => s
  | i + 1 => rnd (rn w s i) (K.getD i 0) (w.getD i 0)
def add (s t : St) : St := ⟨(s.a + t.a) % 4294967296, (s.b + t.b) % 4294967296, (s.c + t.c) % 4294967296, (s.d + t.d) % 4294967296, (s.e + t.e) % 4294967296, (s.f + t.f) % 4294967296, (s.g + t.g) % 4294967296, (s.h + t.h) % 4294967296⟩
def compress (s : St) (l : List Nat) : St := add s (rn (sch l 64) s 64)
def blocks : Nat → St → List Nat → St
  | 0, s, _ => s
  | n + 1, s, l => blocks n (compress s l) (l.drop 64)
def H0 : St := ⟨0x6a09e667, 0xbb67ae85, 0x3c6ef372, 0xa54ff53a, 0x510e527f, 0x9b05688c, 0x1f83d9ab, 0x5be0cd19⟩
def be4 (x : Nat) : List Nat := [x / 16777216 % 256, x / 65536 % 256, x / 256 % 256, x % 256]
def be8 (x : Nat) : List Nat := [x / 72057594037927936 % 256, x / 281474976710656 % 256, x / 1099511627776 % 256, x / 4294967296 % 256, x / 16777216 % 256, x / 65536 % 256, x / 256 % 256, x % 256]
def zeros (n : Nat) : Nat := (119 - n % 64) % 64
def pad (l : List Nat) : List Nat := l ++ [128] ++ List.replicate (zeros l.length) 0 ++ be8 (8 * l.length)
def out (s : St) : List Nat := be4 s.a ++ be4 s.b ++ be4 s.c ++ be4 s.d ++ be4 s.e ++ be4 s.f ++ be4 s.g ++ be4 s.h
def sha (l : List Nat) : List Nat := out (blocks ((pad l).length / 64) H0 (pad l))
end Go.Proofs.Ytipbnjcgololpaa.Sha
